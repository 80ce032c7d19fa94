/-
  The reference's Revert of snapshots.
  The reference's Delete of snapshots.
-/
import Derived.Test.YtnkmklnlaepdeaaGreatSn6
import Derived.Test.YtnkmklnlaepdeaaGreatSn7
import Derived.Deep.DeepCutAuto
set_option linter.unusedVariables false
set_option linter.unusedSimpArgs false
set_option linter.unusedSectionVars false
set_option linter.unnecessarySimpa false
namespace Go.Proofs.YtnkmklnlaepdeaaGreat
open Go.RowKit Go.Shelf
attribute [local go_sem] Oper.semAt_some

end Go.Proofs.YtnkmklnlaepdeaaGreat

namespace Go.Proofs.YtnkmklnlaepdeaaGreat
open Go.RowKit Go.Shelf
attribute [local go_sem] Oper.semAt_some

/-- the items, the one ahead of a with what a has saved -/
def dSt (l : List Snp) (a : Nat) : List Snp := match a with
  | 0 => l
  | i + 1 => l.set i ((l.getD i (0, 0, [])).1, (l.getD i (0, 0, [])).2.1, foldL ((l.getD (i + 1) (0, 0, [])).2.2 ++ (l.getD i (0, 0, [])).2.2))
theorem dSt_len {l : List Snp} {a : Nat} : (dSt l a).length = l.length := by cases a <;> simp [dSt]
theorem getD_of {l : List Snp} {i : Nat} (h : i < l.length) : l.getD i (0, 0, []) = l[i] := by
  rw [List.getD_eq_getElem?_getD, List.getElem?_eq_getElem h]; rfl
theorem delL_dSt {l : List Snp} {a : Nat} (h : a < l.length) : delL l a = (dSt l a).eraseIdx a := by
  cases a with
  | zero => cases l <;> rfl
  | succ i =>
    rw [delL_succ h]
    show _ = (l.set i ((l.getD i (0, 0, [])).1, (l.getD i (0, 0, [])).2.1, foldL ((l.getD (i + 1) (0, 0, [])).2.2 ++ (l.getD i (0, 0, [])).2.2))).eraseIdx (i + 1)
    rw [getD_of h, getD_of (by omega : i < l.length)]
theorem dSt_step {l : List Snp} {k : Nat} (h : k + 1 < l.length) : dSt l (k + 1) = l.set k (l[k].1, l[k].2.1, foldL (l[k + 1].2.2 ++ l[k].2.2)) := by
  show l.set k ((l.getD k (0, 0, [])).1, (l.getD k (0, 0, [])).2.1, foldL ((l.getD (k + 1) (0, 0, [])).2.2 ++ (l.getD k (0, 0, [])).2.2)) = _
  rw [getD_of h, getD_of (by omega : k < l.length)]
theorem dSt_step' {l : List Snp} {k a : Nat} (hk1 : k + 1 = a) (h : a < l.length) (hlt : k < l.length) : dSt l a = l.set k (l[k].1, l[k].2.1, foldL (l[a].2.2 ++ l[k].2.2)) := by
  subst hk1
  exact dSt_step h
theorem dSt_at {l : List Snp} {a k : Nat} (h : k + 1 ≠ a) : (dSt l a)[k]? = l[k]? := by
  cases a with
  | zero => rfl
  | succ i => unfold dSt; exact List.getElem?_set_ne (by omega)
theorem del_same {l : List Snp} {a : Nat} (h : a < l.length) : (l.take (a + 1)).eraseIdx a = (l.take a).eraseIdx a := by
  have h1 : (l.take a).length = a := by simp; omega
  rw [List.take_succ_eq_append_getElem h, List.eraseIdx_append_of_length_le (by omega), h1, Nat.sub_self, show (l.take a).eraseIdx a = l.take a from List.eraseIdx_of_length_le (by omega)]; simp
theorem del_next {l : List Snp} {a k : Nat} (h : k < l.length) (hne : k ≠ a) : (l.take (k + 1)).eraseIdx a = (l.take k).eraseIdx a ++ [l[k]] := by
  have h1 : (l.take k).length = k := by simp; omega
  rw [List.take_succ_eq_append_getElem h]
  by_cases hk : a < k
  · rw [List.eraseIdx_append_of_lt_length (by omega)]
  · rw [List.eraseIdx_append_of_length_le (by omega), h1, List.eraseIdx_of_length_le (by simp; omega), List.eraseIdx_of_length_le (by omega)]
set_option maxHeartbeats 4000000 in
set_option maxRecDepth 100000 in
theorem refSnDelete_any (A A2 : Option Addr) (c c2 n m : Nat) (im : Img) (l : List Snp) (num : Int) (w : World) (hn : im.length = n) (hm : l.length = m) (h1 : SlAt (encSl encSec) w (Bl w.heap.size) A im) (h2 : SlAt encSnp w (Bl w.heap.size) A2 l) (hL : SnLim im l) (hsv : ∀ x ∈ l, x.2.2.length ≤ 50000) :
    Calls Tryz.prog 30 #[.agg #[.slice A n c, .slice A2 m c2], .int .i64 num] w (SnRetE (sDelete (im, l) num) (findE (im, l) num) w) := by
  subst hn hm
  have H1 : Hid (∀ w', Below w.heap.size w w' → SlAt (encSl encSec) w' (Bl w.heap.size) A im) := fun w' hb => h1.below hb
  have H2 : Hid (∀ w', Below w.heap.size w w' → SlAt encSnp w' (Bl w.heap.size) A2 l) := fun w' hb => h2.below hb
  have HLM := Lib.hid hL
  have HSV := Lib.hid hsv
  have hl1 := hL.ims
  have hl2 := hL.its
  clear h1 h2 hL hsv
  obtain ⟨n0, hn0⟩ : ∃ n0, w.heap.size = n0 := ⟨_, rfl⟩
  obtain ⟨W0, hW0⟩ : ∃ W0, (w.alloc (.cells #[.slice A im.length c, .slice A2 l.length c2] 29)).alloc (.cells #[.slice none 0 0, .slice none 0 0] 29) = W0 := ⟨_, rfl⟩
  have hB0 : Below n0 w W0 := by rw [← hW0, ← hn0]; exact ext_alloc (ext_alloc (Below.refl _ _))
  have hs0 : n0 + 1 < W0.heap.size := by rw [← hW0, ← hn0]; simp
  have hr0 : W0.heap[n0]? = some (.cells #[.slice A im.length c, .slice A2 l.length c2] 29 (0, 0)) := by rw [← hW0, ← hn0]; exact (Below.heap_alloc _ _ _ (by simp)).trans (heap_alloc_new _ _)
  have hrz0 : W0.heap[n0 + 1]? = some (.cells #[.slice none 0 0, .slice none 0 0] 29 (0, 0)) := by rw [← hW0, ← hn0]; exact heap_new2 _ _ _
  have hBL : Hid (∀ (W : World) g, Below n0 w W → Bl w.heap.size g → Bl W.heap.size g) := fun W g hb hg => by have := hb.size; have h5 : g < w.heap.size := hg; show g < W.heap.size; omega
  have HCC : Hid (∀ W, Below W0.heap.size W0 W → W.cell? ⟨n0, 0, none⟩ = some (.slice A im.length c) ∧ W.cell? ⟨n0, 1, none⟩ = some (.slice A2 l.length c2)) := fun W hb => by
    obtain ⟨a, b, _⟩ := blk2 ((hb.block n0 (by omega)).trans hr0)
    exact ⟨a, b⟩
  have HRZ : Hid (∀ W, Below W0.heap.size W0 W → W.heap[n0 + 1]? = some (.cells #[.slice none 0 0, .slice none 0 0] 29 (0, 0))) := fun W hb => (hb.block (n0 + 1) hs0).trans hrz0
  obtain ⟨r, hr⟩ : ∃ r, Hid (findE (im, l) num = r) := ⟨_, rfl⟩
  obtain ⟨a, ha⟩ : ∃ a, Hid (findN (im, l) num = a) := ⟨_, rfl⟩
  have HCK := Lib.hid (refFind_any A A2 c c2 im.length l.length im l num W0 rfl rfl ((H1.out W0 (by rw [hn0]; exact hB0)).more (fun g hg => hBL.out W0 g hB0 hg)) ((H2.out W0 (by rw [hn0]; exact hB0)).more (fun g hg => hBL.out W0 g hB0 hg)) hl1 (by omega))
  rw [hr.out, ha.out] at HCK
  obtain ⟨c0, c1⟩ := HCC.out W0 (Below.refl _ _)
  clear hr0 hrz0
  go_enter Tryz.func30, Tryz.ntmps30
  go_wp2_with fail
  refine HCK.out.mono ?_
  rintro e w1 ⟨rfl, hb1⟩
  have hbw1 : Below n0 w w1 := hB0.trans (hb1.mono (by omega))
  have hz1 := hb1.size
  have hrz1 := HRZ.out w1 hb1
  clear HCK hW0 c0 c1
  by_cases hx0 : r = 0
  case neg =>
    have hx0' : (r != 0) = true := by simp [hx0]
    have hne : r ≠ 0 := hx0
    clear hx0
    have hE : Hid (findE (im, l) num = r) := hr.out
    have hS : Hid (sDelete (im, l) num = zSns) := by rw [Hid, sDelete, if_neg (by rw [hE.out]; exact hne)]
    obtain ⟨q0, q1, qf⟩ := blk2 hrz1
    clear hne
    go_wp2_with fail
    have hz := blk2_set hrz1 (.slice none 0 0) (.slice none 0 0)
    have hbe := ((hbw1.setCell (p := ⟨n0 + 1, 0, none⟩) (by show n0 ≤ n0 + 1; omega) (.slice none 0 0)).setCell (p := ⟨n0 + 1, 1, none⟩) (by show n0 ≤ n0 + 1; omega) (.slice none 0 0))
    have hse := (SnRet.zero (w := (w1.setCell ⟨n0 + 1, 0, none⟩ (.slice none 0 0)).setCell ⟨n0 + 1, 1, none⟩ (.slice none 0 0)) (lo := n0) (by simp [World.setCell]; omega))
    change bodyPost _ _ _ _ _ ((w1.setCell ⟨(n0 + 1), 0, none⟩ (.slice none 0 0)).setCell ⟨(n0 + 1), 1, none⟩ (.slice none 0 0))
    generalize (w1.setCell ⟨(n0 + 1), 0, none⟩ (.slice none 0 0)).setCell ⟨(n0 + 1), 1, none⟩ (.slice none 0 0) = W3 at hz hbe hse ⊢
    obtain ⟨z0, z1, _⟩ := blk2 hz
    refine bodyPost_ret (v := .tuple #[.agg #[(.slice none 0 0), (.slice none 0 0)], .int .i64 r]) ?_ rfl ?_
    · simp [results, Tryz.results30, Tryz.f30, go_sem, z0, z1]
    rw [hE.out, hS.out]
    exact ⟨none, 0, none, 0, n0, rfl, by rw [hn0]; exact hse, by rw [hn0]; exact hbe⟩
  have hx0' : (r != 0) = false := by simp [hx0]
  have hE : Hid (findE (im, l) num = 0) := by rw [Hid, hr.out, hx0]
  obtain ⟨e1, hkl⟩ := findE_ok hE.out
  rw [ha.out] at hkl
  have hS : Hid (sDelete (im, l) num = (im, delL l a)) := by rw [Hid, sDelete, if_pos hE.out, ha.out]
  have hcp := refCopy36_any A A2 c c2 im.length l.length im l w1 rfl rfl ((H1.out w1 (by rw [hn0]; exact hbw1)).more (fun g hg => hBL.out w1 g hbw1 hg)) ((H2.out w1 (by rw [hn0]; exact hbw1)).more (fun g hg => hBL.out w1 g hbw1 hg)) HLM.out (snE_full e1)
  have HFIT := Lib.hid (snE_ok e1).2
  have HSZ := Lib.hid (snE_ok e1).1
  have HCP := Lib.hid hcp
  obtain ⟨c0, c1⟩ := HCC.out w1 hb1
  clear hx0 hr hcp e1
  go_wp2_with fail
  refine HCP.out.mono ?_
  rintro e w2 ⟨B, vc, D, dc, mid, rfl, hsn, hb2⟩
  have hb02 : Below W0.heap.size W0 w2 := ext_trans hb1 hb2
  clear HCP c0 c1 hrz1
  go_upto_region 5 with (fail)
  obtain ⟨xb, hxb⟩ : ∃ xb, w2.heap.size = xb := ⟨_, rfl⟩
  obtain ⟨w3, hw3⟩ : ∃ w3, w2.alloc (.cells #[.slice B im.length vc, .slice D l.length dc] 29) = w3 := ⟨_, rfl⟩
  rw [hw3, hxb]
  have hb3 : Below w2.heap.size w2 w3 := by rw [← hw3]; exact ext_alloc (Below.refl _ _)
  have hr3 : w3.heap[xb]? = some (.cells #[.slice B im.length vc, .slice D l.length dc] 29 (0, 0)) := by rw [← hw3, ← hxb]; exact heap_alloc_new _ _
  have hs3 : xb < w3.heap.size := (Array.getElem?_eq_some_iff.1 hr3).1
  have hw3s : Hid (w3.heap.size = xb + 1) := by rw [Hid, ← hw3, ← hxb]; simp
  have hz2 := hb2.size
  obtain ⟨k1, k2, k3, k4, k5, k6⟩ := hsn
  have hmz : mid ≤ xb := by omega
  have hmid : w1.heap.size ≤ mid := k3
  have hvc : Hid (im.length ≤ vc ∧ vc ≤ maxLen) := ⟨k1, k2⟩
  have HIM : Hid (SlAt (encSl encSec) w2 (Nw w1.heap.size mid) B im) := k5
  obtain ⟨o0, o1, of⟩ := blk2 hr3
  go_upto_region 6 with (fail)
  obtain ⟨ob, hob⟩ : ∃ ob, w3.heap.size = ob := ⟨_, rfl⟩
  obtain ⟨w4, hw4⟩ : ∃ w4, w3.alloc (.cells #[.slice B im.length vc, .slice none 0 0] 29) = w4 := ⟨_, rfl⟩
  rw [hw4, hob]
  have hb4 : Below w3.heap.size w3 w4 := by rw [← hw4]; exact ext_alloc (Below.refl _ _)
  have hr4o : w4.heap[ob]? = some (.cells #[.slice B im.length vc, .slice none 0 0] 29 (0, 0)) := by rw [← hw4, ← hob]; exact heap_alloc_new _ _
  have hr4x := (hb4.block xb hs3).trans hr3
  have hs4 : ob < w4.heap.size := (Array.getElem?_eq_some_iff.1 hr4o).1
  have hox : xb < ob := by have := hw3s.out; omega
  have hO4 : Hid (OwnX (fun b => b = xb ∨ b = ob ∨ (Value.slice none 0 0).ownBlock = some b) encSnp w4 mid 45 (.slice D l.length dc) l) := ((k6.var (X' := fun b => b = xb ∨ b = ob ∨ (Value.slice none 0 0).ownBlock = some b) (fun g hg => Or.inr (by rcases hg with h | h | h; omega; omega; cases h))).below hb3).below hb4
  have hb24 : Below mid w2 w4 := (hb3.mono (by omega)).trans (hb4.mono (by omega))
  obtain ⟨g, cs, he, hg1, hg2, hn, hcell, hfz, hrd⟩ := hO4.out.1.elem (i := a) hkl
  subst he
  obtain ⟨l', hl'⟩ : ∃ l', Hid (dSt l a = l') := ⟨_, rfl⟩
  have hll : Hid (l'.length = l.length) := by rw [Hid, ← hl'.out]; exact dSt_len
  have hdel : Hid (delL l a = l'.eraseIdx a) := by rw [Hid, ← hl'.out]; exact delL_dSt hkl
  have HR4O := Lib.hid hr4o
  have HR4X := Lib.hid hr4x
  clear k1 k2 k3 k4 k5 k6 hw3 hw4 hb3 hb4 hr3 hr4o hr4x o0 o1 of hcell hfz hrd hn
  go_wp2_with fail
  go_loopw [10] (fun i wr => ∃ (k : Nat) (A5 : Option Addr) (c5 : Nat) (xl ol : List Snp), k ≤ l.length ∧ i = .int .i64 k ∧ Below mid w2 wr ∧ ob < wr.heap.size ∧ Hid (xl = if k < a then l else l') ∧ Hid (ol = (l'.take k).eraseIdx a) ∧ Hid (wr.heap[xb]? = some (.cells #[.slice B im.length vc, .slice (some ⟨g, 0, none⟩) l.length dc] 29 (0, 0))) ∧ Hid (wr.heap[ob]? = some (.cells #[.slice B im.length vc, .slice A5 ol.length c5] 29 (0, 0))) ∧ Hid (OwnX (fun b => b = xb ∨ b = ob ∨ (Value.slice A5 ol.length c5).ownBlock = some b) encSnp wr mid 45 (.slice (some ⟨g, 0, none⟩) l.length dc) xl) ∧ Hid (OwnX (fun b => b = xb ∨ b = ob ∨ b = g) encSnp wr mid 45 (.slice A5 ol.length c5) ol)) (fun i _ => l.length - (intOf i).toNat)
  case atStart =>
    refine ⟨0, none, 0, if 0 < a then l else l', [], by omega, rfl, hb24, hs4, rfl, by simp [Hid], HR4X.out, HR4O.out, ?_, OwnX.nil_⟩
    split
    · exact hO4.out
    · have e : l = l' := by rw [← hl'.out, show a = 0 by omega]; rfl
      rw [← e]; exact hO4.out
  case round =>
    obtain ⟨wo, rfl⟩ : ∃ wo : World, wo = wr := ⟨_, rfl⟩
    obtain ⟨k, A5, c5, xl, ol, hk, rfl, hB, hsz, hxl, hol, hrx, hro, HX0, HO0⟩ := hrel
    obtain ⟨_, x1, _⟩ := blk2 hrx.out
    by_cases hlt : k < l.length
    · have hki : (k : Int) < l.length := by omega
      have hnn : (0 : Int) ≤ k := by omega
      have hol2 : Hid (ol.length ≤ k) := by rw [hol.out, Hid]; have h1 := List.length_eraseIdx_le (l'.take k) a; have h2 := List.length_take_le k l'; omega
      by_cases hka : k = a
      · subst hka
        have hsame := del_same (l := l') (a := k) (by rw [hll.out]; exact hlt)
        have hkk : (k : Int) = k := rfl
        go_wp2_with fail
        go_roundw
        case rel => exact ⟨k + 1, A5, c5, xl, ol, hlt, by go_num, hB, hsz, by rw [Hid, hxl.out, if_neg (by omega), if_neg (by omega)], by rw [Hid, hsame]; exact hol.out, hrx.out, hro.out, HX0.out, HO0.out⟩
        case measure => simp [intOf]; omega
      · by_cases hk1 : k + 1 = a
        · have hkn : ¬ (k : Int) = a := by omega
          have hkm : (a : Int) - 1 = k := by omega
          go_upto_region 11 with (fail)
          have hal : (a : Int) < l.length := by omega
          have han : (0 : Int) ≤ a := by omega
          have hXl : Hid (xl = l) := by rw [Hid, hxl.out, if_pos (by omega)]
          rw [hXl.out] at HX0
          have hgz : g < wo.heap.size := (HX0.out.lt g rfl).2
          obtain ⟨ga, csa, hea, _, _, _, hcella, _, hrda⟩ := HX0.out.1.elem (i := a) hkl
          obtain ⟨gk, csk, hek, _, _, _, hcellk, hfzk, hrdk⟩ := HX0.out.1.elem (i := k) hlt
          simp only [Option.some.injEq, Addr.mk.injEq, and_true] at hea hek
          subst hea hek
          have hst := dSt_step' (l := l) hk1 hkl hlt
          have hsa := HSV.out l[a] (List.getElem_mem hkl)
          have hsk := HSV.out l[k] (List.getElem_mem hlt)
          have hfa := HFIT.out l[a] (List.getElem_mem hkl)
          rw [hl'.out] at hst
          have HSTO := Lib.hid (fun (W : World) (X : Nat → Prop) (d : List Wr) (D : Option Addr) (dcc : Nat) (h : OwnX X encSnp W mid 45 (.slice (some ⟨g, 0, none⟩) l.length dc) l) => OwnX.storeSv h hlt (d := d) (D := D) (dc := dcc))
          obtain ⟨xa, hxa⟩ : ∃ x, l[a] = x := ⟨_, rfl⟩
          obtain ⟨xk, hxk⟩ : ∃ x, l[k] = x := ⟨_, rfl⟩
          rw [hxa] at hrda hst hsa hfa
          rw [hxk] at hrdk hst hsk HSTO
          obtain ⟨na, ta, sa⟩ := xa
          obtain ⟨nk, tk, sk⟩ := xk
          obtain ⟨Da, da, rfl, _, _, a1, a2, a3⟩ := snp_cs hrda
          obtain ⟨Dk, dk, rfl, b1, b2, b3, b4, b5⟩ := snp_cs hrdk
          simp only at a1 a2 a3 b1 b2 b3 b4 b5 hst hsa hsk hfa HSTO
          have da2 := hcella 2 _ rfl
          have dk2 := hcellk 2 _ rfl
          simp only [show encSnp.size = 3 from rfl] at da2 dk2
          have hfk := hfzk (k * 3 + 2)
          have hda : Hid (∀ x ∈ sa, 0 < x.2.2.length ∧ x.2.2.length ≤ 1000000) := fun x hx => by
            have h1 := fits_ok HSZ.out (hfa x hx)
            exact ⟨h1.2.2.1, by have := h1.2.2.2; omega⟩
          obtain ⟨rr, hrr⟩ : ∃ rr, Hid (foldL (sa ++ sk) = rr) := ⟨_, rfl⟩
          rw [hrr.out] at hst
          have HLK : Hid (l.set k (nk, tk, rr) = l') := hst.symm
          have hbd : Below wo.heap.size wo wo.drew := (Below.refl _ _).drew
          have HOV := Lib.hid (refOver_any Da Dk da dk sa.length sk.length sa sk wo.drew rfl rfl ((a3.more (fun b hb => (show b < wo.heap.size from hb.1.2))).fwd hbd) ((b5.more (fun b hb => (show b < wo.heap.size from hb.1.2))).fwd hbd) (by omega) hda.out)
          rw [hrr.out] at HOV
          have hobz : ob < wo.heap.size := hsz
          have hxbz : xb < wo.heap.size := by omega
          have hneA : (⟨g, k * 3 + 2, none⟩ : Addr) ≠ ⟨g, a * 3 + 2, none⟩ := fun e => by injection e with _ e2 _; omega
          have hxg : xb ≠ g := fun e => HX0.out.2 g rfl (Or.inl e.symm)
          have hog : ob ≠ g := fun e => HX0.out.2 g rfl (Or.inr (Or.inl e.symm))
          have HSX : Hid (∀ W, Below wo.heap.size wo W → W.cell? ⟨xb, 1, none⟩ = some (.slice (some ⟨g, 0, none⟩) l.length dc) ∧ W.cell? ⟨g, a * 3 + 2, none⟩ = some (.slice Da sa.length da)) := fun W hb => ⟨(World.cell?_of_block (a := ⟨xb, 1, none⟩) (hb.block xb hxbz)).trans x1, (World.cell?_of_block (a := ⟨g, a * 3 + 2, none⟩) (hb.block g hgz)).trans da2⟩
          have HSG : Hid (∀ W, Below wo.heap.size wo W → W.cell? ⟨g, k * 3 + 2, none⟩ = some (.slice Dk sk.length dk) ∧ W.frozen? ⟨g, k * 3 + 2, none⟩ = false) := fun W hb => ⟨(World.cell?_of_block (a := ⟨g, k * 3 + 2, none⟩) (hb.block g hgz)).trans dk2, (World.frozen?_of_block (a := ⟨g, k * 3 + 2, none⟩) (hb.block g hgz)).trans hfk⟩
          obtain ⟨s0, s1⟩ := HSX.out wo.drew hbd
          obtain ⟨z0, f0⟩ := HSG.out wo.drew hbd
          clear hcella hcellk hfzk hrda hrdk a1 a2 a3 b1 b2 b3 b4 b5 hst hsa hsk hfa hxa hxk da2 dk2 hfk x1
          go_cut [10] (fun e wx => e = .int .i64 k ∧ OwnX (fun b => b = xb ∨ b = ob ∨ (Value.slice A5 ol.length c5).ownBlock = some b) encSnp wx mid 45 (.slice (some ⟨g, 0, none⟩) l.length dc) l' ∧ OwnX (fun b => b = xb ∨ b = ob ∨ b = g) encSnp wx mid 45 (.slice A5 ol.length c5) ol ∧ wx.heap[xb]? = some (.cells #[.slice B im.length vc, .slice (some ⟨g, 0, none⟩) l.length dc] 29 (0, 0)) ∧ wx.heap[ob]? = some (.cells #[.slice B im.length vc, .slice A5 ol.length c5] 29 (0, 0)) ∧ Below mid w2 wx ∧ ob < wx.heap.size)
          case first =>
            go_region_law (first | (go_simp; go_at_call 54; refine HOV.out.mono ?_; rintro e w5 ⟨A8, c8, rfl, u1, u2, u3, hb7⟩; have hx7 : Below wo.heap.size wo w5 := ext_trans hbd hb7; obtain ⟨z7, f7⟩ := HSG.out w5 hx7; obtain ⟨q0, q1⟩ := HSX.out w5 hx7))
            all_goals
              go_wp2
              go_meet
              have hz7 := hx7.size
              have hX5 := HSTO.out w5 _ rr A8 c8 (HX0.out.below hx7) u1 u2 (u3.more (fun b hb => ⟨⟨by have h := hb.1; simp at h; omega, hb.2⟩, fun h => by
                have h0 := hb.1
                simp at h0
                rcases h with h | h | h
                · omega
                · omega
                · have := (HO0.out.lt b h).2; omega, by have h := hb.1; simp at h; omega⟩))
              rw [HLK.out] at hX5
              refine ⟨rfl, hX5, (HO0.out.below hx7).set (p := ⟨g, k * 3 + 2, none⟩) (Or.inr (Or.inr rfl)) (.slice A8 rr.length c8), (heap_setCell_other w5 ⟨g, k * 3 + 2, none⟩ xb (.slice A8 rr.length c8) hxg).trans ((hx7.block xb hxbz).trans hrx.out), (heap_setCell_other w5 ⟨g, k * 3 + 2, none⟩ ob (.slice A8 rr.length c8) hog).trans ((hx7.block ob hobz).trans hro.out), (hB.trans (hx7.mono (by omega))).setCell (p := ⟨g, k * 3 + 2, none⟩) (by show mid ≤ g; exact (HX0.out.lt g rfl).1) (.slice A8 rr.length c8), ?_⟩
              simp [World.setCell]; omega
          case rest =>
          obtain ⟨rfl, hcut⟩ := hcut
          have HCUT := Lib.hid hcut
          have HX := Lib.hid HCUT.out.1
          have HO := Lib.hid HCUT.out.2.1
          have HXB := Lib.hid HCUT.out.2.2.1
          have HOB := Lib.hid HCUT.out.2.2.2.1
          have HBQ := HCUT.out.2.2.2.2.1
          have hszq := HCUT.out.2.2.2.2.2
          clear hcut HCUT z0 f0 s0 s1 HOV HX0 HO0 hrx hro hgz hxbz hobz hbd
          have hxql : Hid (l'.length = l.length) := hll
          have hxq : Hid (l'[k]? = l'[k]?) := rfl
          have hxl1 : Hid (l' = if k + 1 < a then l else l') := by rw [Hid, if_neg (by omega)]
          obtain ⟨_, x1, _⟩ := blk2 HXB.out
          go_upto_region 12 with (fail)
          have hkq : k < l'.length := by rw [hxql.out]; exact hlt
          obtain ⟨g', cs', he', ya, yb, yc, hcell', hfz', hrd'⟩ := HX.out.1.elem (i := k) hkq
          simp only [Option.some.injEq, Addr.mk.injEq, and_true] at he'
          subst he'
          obtain ⟨x, hx⟩ : ∃ x, l'[k] = x := ⟨_, rfl⟩
          rw [hx] at hrd'
          have hxl' : Hid (l'[k]? = some x) := by rw [Hid, ← hxq.out, List.getElem?_eq_getElem hkq, hx]
          obtain ⟨num1, tm1, sv⟩ := x
          obtain ⟨Dx, dx, rfl, i1, i2, j1, j2, j3⟩ := snp_cs hrd'
          simp only at i1 i2 j1 j2 j3
          have d0 := hcell' 0 _ rfl
          have d1 := hcell' 1 _ rfl
          have d2 := hcell' 2 _ rfl
          simp only [show encSnp.size = 3 from rfl, Nat.add_zero] at d0 d1 d2
          have hgq : g < wc.heap.size := yb
          have hobq : ob < wc.heap.size := (Array.getElem?_eq_some_iff.1 HOB.out).1
          have hxbq : xb < wc.heap.size := (Array.getElem?_eq_some_iff.1 HXB.out).1
          obtain ⟨cc, hcc⟩ : ∃ cc : Array Value, cc = #[.int .i64 num1, .int .i64 tm1, .slice Dx sv.length dx] := ⟨_, rfl⟩
          have hO4 := Lib.hid ((HO.out.below (Below.refl wc.heap.size wc).drew).alloc (.cells #[.int .i64 num1, .int .i64 tm1, .slice Dx sv.length dx] 45))
          have hO4o := Lib.hid hO4.out.1
          have HRD : Hid (encSnp.rd (wc.drew.alloc (.cells #[.int .i64 num1, .int .i64 tm1, .slice Dx sv.length dx] 45)) (fun b => Nw mid (wc.drew.alloc (.cells #[.int .i64 num1, .int .i64 tm1, .slice Dx sv.length dx] 45)).heap.size b ∧ ¬ (b = xb ∨ b = ob ∨ b = g) ∧ (Value.slice A5 ol.length c5).ownBlock ≠ some b) [.int .i64 num1, .int .i64 tm1, .slice Dx sv.length dx] (num1, tm1, sv)) :=
            snp_mk (x := (num1, tm1, sv)) i1 i2 j1 j2 ((j3.blk (fun b hb => (Below.heap_alloc wc.drew _ b hb.1.2))).more (fun b hb => ⟨⟨hb.1.1, by have := hb.1.2; simp; omega⟩, fun h => h.elim (fun h => hb.2.1 (Or.inl h)) (fun h => h.elim (fun h => hb.2.1 (Or.inr (Or.inl h))) (fun h => hb.2.2 (by rw [h]; rfl))), fun h => hb.2.1 (Or.inr (Or.inr h))⟩))
          have HSY : Hid (∀ (W : World), (∀ b, b = xb ∨ b = ob ∨ b = g → W.heap[b]? = wc.heap[b]?) → (W.cell? ⟨ob, 1, none⟩ = some (.slice A5 ol.length c5) ∧ W.frozen? ⟨ob, 1, none⟩ = false) ∧ W.cell? ⟨xb, 1, none⟩ = some (.slice (some ⟨g, 0, none⟩) l.length dc) ∧ W.cell? ⟨g, k * 3, none⟩ = some (.int .i64 num1) ∧ W.cell? ⟨g, k * 3 + 1, none⟩ = some (.int .i64 tm1) ∧ W.cell? ⟨g, k * 3 + 2, none⟩ = some (.slice Dx sv.length dx)) := fun W hb => by
            obtain ⟨_, p1, pf⟩ := blk2 ((hb ob (Or.inr (Or.inl rfl))).trans HOB.out)
            obtain ⟨_, p2, _⟩ := blk2 ((hb xb (Or.inl rfl)).trans HXB.out)
            have hg' := hb g (Or.inr (Or.inr rfl))
            exact ⟨⟨p1, pf 1⟩, p2, (World.cell?_of_block (a := ⟨g, k * 3, none⟩) hg').trans d0, (World.cell?_of_block (a := ⟨g, k * 3 + 1, none⟩) hg').trans d1, (World.cell?_of_block (a := ⟨g, k * 3 + 2, none⟩) hg').trans d2⟩
          have hoown : Hid (∀ b, b = xb ∨ b = ob ∨ b = g → (Value.slice A5 ol.length c5).ownBlock ≠ some b) := fun b hb h => HO.out.2 b h hb
          obtain ⟨⟨s0, sf⟩, s1, s2, s3, s4⟩ := HSY.out wc.drew (fun _ _ => rfl)
          have hal : ∀ b, b = xb ∨ b = ob ∨ b = g → b < wc.heap.size := fun b hb => by omega
          obtain ⟨⟨v0, vf⟩, v1, v2, v3, v4⟩ := HSY.out (wc.alloc (.cells #[.int .i64 num1, .int .i64 tm1, .slice Dx sv.length dx] 45)) (fun b hb => Below.heap_alloc wc _ b (hal b hb))
          obtain ⟨⟨u0, uf⟩, u1, u2, u3, u4⟩ := HSY.out (wc.drew.alloc (.cells #[.int .i64 num1, .int .i64 tm1, .slice Dx sv.length dx] 45)) (fun b hb => Below.heap_alloc wc.drew _ b (hal b hb))
          have holl : ol.length ≤ 100000 := by have := hol2.out; omega
          have HAL := Lib.hid hal
          clear hcell' hfz' hrd' j3 hx d0 d1 d2 hal hcc
          go_region_law (refine step_app1 (E := encSnp) tySnps rfl _ _ rfl rfl hO4o.out (num1, tm1, sv) [.int .i64 num1, .int .i64 tm1, .slice Dx sv.length dx] rfl HRD.out (heap_alloc_new _ _) (fun _ h => h.1.2) (by simp; omega) (by unfold maxLen; omega) (by omega) ?_; intro A6 c6 w6 hown6 hg6 hat6; have hk6 : Hid (∀ b, b = xb ∨ b = ob ∨ b = g → w6.heap[b]? = wc.heap[b]?) := fun b hb => (hg6.block b (by have := HAL.out b hb; simp; omega) (fun e => hoown.out b hb e.symm)).trans (Below.heap_alloc wc.drew _ b (HAL.out b hb)); obtain ⟨⟨t0, tf⟩, t1, t2, t3, t4⟩ := HSY.out w6 hk6.out)
          all_goals
            have hro7 := blk2_1 ((hk6.out ob (Or.inr (Or.inl rfl))).trans HOB.out) (.slice A6 (ol.length + 1) c6)
            have hrx7 := (heap_setCell_other w6 ⟨ob, 1, none⟩ xb (.slice A6 (ol.length + 1) c6) (by show xb ≠ ob; omega)).trans ((hk6.out xb (Or.inl rfl)).trans HXB.out)
            have hg6' : (wc.drew.alloc (.cells #[.int .i64 num1, .int .i64 tm1, .slice Dx sv.length dx] 45)).grownBy w6 (Value.slice A5 ol.length c5).ownBlock := hg6
            have hat6' : (Value.slice A6 (ol.length + 1) c6).ownBlock = (Value.slice A5 ol.length c5).ownBlock ∨ (Value.slice A6 (ol.length + 1) c6).ownBlock = some (wc.drew.alloc (.cells #[.int .i64 num1, .int .i64 tm1, .slice Dx sv.length dx] 45)).heap.size := hat6
            have hmq : mid ≤ wc.heap.size := by omega
            have hz6 := hg6.size
            have hzq : wc.heap.size ≤ w6.heap.size := by have h := hz6; simp at h; omega
            have hla : (ol ++ [(num1, tm1, sv)]).length = ol.length + 1 := by simp
            have hO7 : OwnX (fun b => b = xb ∨ b = ob ∨ b = g) encSnp (w6.setCell ⟨ob, 1, none⟩ (.slice A6 (ol.length + 1) c6)) mid 45 (.slice A6 (ol.length + 1) c6) (ol ++ [(num1, tm1, sv)]) := (hO4.out.app hown6 hg6 hat6 (fun b hb => by have := HAL.out b hb; simp; omega)).set (p := ⟨ob, 1, none⟩) (Or.inr (Or.inl rfl)) _
            have hXa := (HX.out.below (Below.refl wc.heap.size wc).drew).alloc (.cells #[.int .i64 num1, .int .i64 tm1, .slice Dx sv.length dx] 45)
            have hXb := hXa.var (X' := fun b => (b = xb ∨ b = ob ∨ (Value.slice A5 ol.length c5).ownBlock = some b) ∨ (Value.slice A6 (ol.length + 1) c6).ownBlock = some b) (fun b hb => hb.elim Or.inl (fun h => hat6'.elim (fun e => Or.inl (Or.inr (Or.inr (e.symm.trans h)))) (fun e => Or.inr (by rw [e] at h; injection h with h; exact Nat.le_of_eq h))))
            have hXc := (hXb.keep hz6 (fun b _ h2 h3 => hg6'.block b h2 (fun e => h3 (Or.inl (Or.inr (Or.inr e.symm)))))).var (X' := fun b => b = xb ∨ b = ob ∨ (Value.slice A6 (ol.length + 1) c6).ownBlock = some b) (fun b hb => hb.elim (fun h => Or.inl (Or.inl (Or.inl h))) (fun h => h.elim (fun h => Or.inl (Or.inl (Or.inr (Or.inl h)))) (fun h => Or.inl (Or.inr h))))
            have hX7 := hXc.set (p := ⟨ob, 1, none⟩) (Or.inr (Or.inl rfl)) (.slice A6 (ol.length + 1) c6)
            have hlo := hO4.out.lt
            have hB7 : Below mid w2 (w6.setCell ⟨ob, 1, none⟩ (.slice A6 (ol.length + 1) c6)) := (((HBQ.drew).alloc (show mid ≤ wc.drew.heap.size from hmq) (.cells #[.int .i64 num1, .int .i64 tm1, .slice Dx sv.length dx] 45)).grown hg6 (by simp; omega) (fun b h => (hlo b h).1)).setCell (p := ⟨ob, 1, none⟩) (by show mid ≤ ob; omega) _
            have hs7 : ob < (w6.setCell ⟨ob, 1, none⟩ (.slice A6 (ol.length + 1) c6)).heap.size := by simp [World.setCell]; omega
            have hdn := del_next (l := l') (a := a) (k := k) (by rw [hll.out]; exact hlt) hka
            have hxx : l'[k]'(by rw [hll.out]; exact hlt) = (num1, tm1, sv) := by
              have h := hxl'.out
              rw [List.getElem?_eq_getElem (by rw [hll.out]; exact hlt)] at h
              exact Option.some.inj h
            rw [hxx] at hdn
            have HZ := Lib.hid (And.intro hro7 (And.intro hrx7 (And.intro hO7 hX7)))
            have HDN := Lib.hid hdn
            have HLA := Lib.hid hla
            clear hro7 hrx7 hO7 hXa hXb hXc hX7 hlo hdn hxx hown6 hg6 hat6 hg6' hat6' hk6 hO4 hO4o HRD s0 sf s1 s2 s3 s4 v0 vf v1 v2 v3 v4 u0 uf u1 u2 u3 u4 t0 tf t1 t2 t3 t4 hz6 hzq hla
            generalize w6.setCell ⟨ob, 1, none⟩ (.slice A6 (ol.length + 1) c6) = w7 at HZ hB7 hs7 ⊢
            go_wp2
            go_roundw
            case rel => exact ⟨k + 1, A6, c6, l', ol ++ [(num1, tm1, sv)], hlt, by go_num, hB7, hs7, hxl1.out, by rw [Hid, HDN.out, ← hol.out], HZ.out.2.1, by rw [Hid, HLA.out]; exact HZ.out.1, by rw [Hid, HLA.out]; exact HZ.out.2.2.2, by rw [Hid, HLA.out]; exact HZ.out.2.2.1⟩
            case measure => simp [intOf]; omega
        · have hkn : ¬ (k : Int) = a := by omega
          have hkm : ¬ (k : Int) = (a : Int) - 1 := by omega
          have hxql : Hid (xl.length = l.length) := by
            rw [Hid, hxl.out]; split
            · rfl
            · exact hll.out
          have hxq : Hid (xl[k]? = l'[k]?) := by
            rw [Hid, hxl.out, ← hl'.out]
            split
            · exact (dSt_at hk1).symm
            · rfl
          have HX := HX0
          have HO := HO0
          have HXB := hrx
          have HOB := hro
          have HBQ := hB
          have hxl1 : Hid (xl = if k + 1 < a then l else l') := by
            rw [Hid, hxl.out]
            by_cases h : k < a
            · rw [if_pos h, if_pos (by omega)]
            · rw [if_neg h, if_neg (by omega)]
          go_upto_region 12 with (fail)
          have hkq : k < xl.length := by rw [hxql.out]; exact hlt
          obtain ⟨g', cs', he', ya, yb, yc, hcell', hfz', hrd'⟩ := HX.out.1.elem (i := k) hkq
          simp only [Option.some.injEq, Addr.mk.injEq, and_true] at he'
          subst he'
          obtain ⟨x, hx⟩ : ∃ x, xl[k] = x := ⟨_, rfl⟩
          rw [hx] at hrd'
          have hxl' : Hid (l'[k]? = some x) := by rw [Hid, ← hxq.out, List.getElem?_eq_getElem hkq, hx]
          obtain ⟨num1, tm1, sv⟩ := x
          obtain ⟨Dx, dx, rfl, i1, i2, j1, j2, j3⟩ := snp_cs hrd'
          simp only at i1 i2 j1 j2 j3
          have d0 := hcell' 0 _ rfl
          have d1 := hcell' 1 _ rfl
          have d2 := hcell' 2 _ rfl
          simp only [show encSnp.size = 3 from rfl, Nat.add_zero] at d0 d1 d2
          have hgq : g < wo.heap.size := yb
          have hobq : ob < wo.heap.size := (Array.getElem?_eq_some_iff.1 HOB.out).1
          have hxbq : xb < wo.heap.size := (Array.getElem?_eq_some_iff.1 HXB.out).1
          obtain ⟨cc, hcc⟩ : ∃ cc : Array Value, cc = #[.int .i64 num1, .int .i64 tm1, .slice Dx sv.length dx] := ⟨_, rfl⟩
          have hO4 := Lib.hid ((HO.out.below (Below.refl wo.heap.size wo).drew).alloc (.cells #[.int .i64 num1, .int .i64 tm1, .slice Dx sv.length dx] 45))
          have hO4o := Lib.hid hO4.out.1
          have HRD : Hid (encSnp.rd (wo.drew.alloc (.cells #[.int .i64 num1, .int .i64 tm1, .slice Dx sv.length dx] 45)) (fun b => Nw mid (wo.drew.alloc (.cells #[.int .i64 num1, .int .i64 tm1, .slice Dx sv.length dx] 45)).heap.size b ∧ ¬ (b = xb ∨ b = ob ∨ b = g) ∧ (Value.slice A5 ol.length c5).ownBlock ≠ some b) [.int .i64 num1, .int .i64 tm1, .slice Dx sv.length dx] (num1, tm1, sv)) :=
            snp_mk (x := (num1, tm1, sv)) i1 i2 j1 j2 ((j3.blk (fun b hb => (Below.heap_alloc wo.drew _ b hb.1.2))).more (fun b hb => ⟨⟨hb.1.1, by have := hb.1.2; simp; omega⟩, fun h => h.elim (fun h => hb.2.1 (Or.inl h)) (fun h => h.elim (fun h => hb.2.1 (Or.inr (Or.inl h))) (fun h => hb.2.2 (by rw [h]; rfl))), fun h => hb.2.1 (Or.inr (Or.inr h))⟩))
          have HSY : Hid (∀ (W : World), (∀ b, b = xb ∨ b = ob ∨ b = g → W.heap[b]? = wo.heap[b]?) → (W.cell? ⟨ob, 1, none⟩ = some (.slice A5 ol.length c5) ∧ W.frozen? ⟨ob, 1, none⟩ = false) ∧ W.cell? ⟨xb, 1, none⟩ = some (.slice (some ⟨g, 0, none⟩) l.length dc) ∧ W.cell? ⟨g, k * 3, none⟩ = some (.int .i64 num1) ∧ W.cell? ⟨g, k * 3 + 1, none⟩ = some (.int .i64 tm1) ∧ W.cell? ⟨g, k * 3 + 2, none⟩ = some (.slice Dx sv.length dx)) := fun W hb => by
            obtain ⟨_, p1, pf⟩ := blk2 ((hb ob (Or.inr (Or.inl rfl))).trans HOB.out)
            obtain ⟨_, p2, _⟩ := blk2 ((hb xb (Or.inl rfl)).trans HXB.out)
            have hg' := hb g (Or.inr (Or.inr rfl))
            exact ⟨⟨p1, pf 1⟩, p2, (World.cell?_of_block (a := ⟨g, k * 3, none⟩) hg').trans d0, (World.cell?_of_block (a := ⟨g, k * 3 + 1, none⟩) hg').trans d1, (World.cell?_of_block (a := ⟨g, k * 3 + 2, none⟩) hg').trans d2⟩
          have hoown : Hid (∀ b, b = xb ∨ b = ob ∨ b = g → (Value.slice A5 ol.length c5).ownBlock ≠ some b) := fun b hb h => HO.out.2 b h hb
          obtain ⟨⟨s0, sf⟩, s1, s2, s3, s4⟩ := HSY.out wo.drew (fun _ _ => rfl)
          have hal : ∀ b, b = xb ∨ b = ob ∨ b = g → b < wo.heap.size := fun b hb => by omega
          obtain ⟨⟨v0, vf⟩, v1, v2, v3, v4⟩ := HSY.out (wo.alloc (.cells #[.int .i64 num1, .int .i64 tm1, .slice Dx sv.length dx] 45)) (fun b hb => Below.heap_alloc wo _ b (hal b hb))
          obtain ⟨⟨u0, uf⟩, u1, u2, u3, u4⟩ := HSY.out (wo.drew.alloc (.cells #[.int .i64 num1, .int .i64 tm1, .slice Dx sv.length dx] 45)) (fun b hb => Below.heap_alloc wo.drew _ b (hal b hb))
          have holl : ol.length ≤ 100000 := by have := hol2.out; omega
          have HAL := Lib.hid hal
          clear hcell' hfz' hrd' j3 hx d0 d1 d2 hal hcc
          go_region_law (refine step_app1 (E := encSnp) tySnps rfl _ _ rfl rfl hO4o.out (num1, tm1, sv) [.int .i64 num1, .int .i64 tm1, .slice Dx sv.length dx] rfl HRD.out (heap_alloc_new _ _) (fun _ h => h.1.2) (by simp; omega) (by unfold maxLen; omega) (by omega) ?_; intro A6 c6 w6 hown6 hg6 hat6; have hk6 : Hid (∀ b, b = xb ∨ b = ob ∨ b = g → w6.heap[b]? = wo.heap[b]?) := fun b hb => (hg6.block b (by have := HAL.out b hb; simp; omega) (fun e => hoown.out b hb e.symm)).trans (Below.heap_alloc wo.drew _ b (HAL.out b hb)); obtain ⟨⟨t0, tf⟩, t1, t2, t3, t4⟩ := HSY.out w6 hk6.out)
          all_goals
            have hro7 := blk2_1 ((hk6.out ob (Or.inr (Or.inl rfl))).trans HOB.out) (.slice A6 (ol.length + 1) c6)
            have hrx7 := (heap_setCell_other w6 ⟨ob, 1, none⟩ xb (.slice A6 (ol.length + 1) c6) (by show xb ≠ ob; omega)).trans ((hk6.out xb (Or.inl rfl)).trans HXB.out)
            have hg6' : (wo.drew.alloc (.cells #[.int .i64 num1, .int .i64 tm1, .slice Dx sv.length dx] 45)).grownBy w6 (Value.slice A5 ol.length c5).ownBlock := hg6
            have hat6' : (Value.slice A6 (ol.length + 1) c6).ownBlock = (Value.slice A5 ol.length c5).ownBlock ∨ (Value.slice A6 (ol.length + 1) c6).ownBlock = some (wo.drew.alloc (.cells #[.int .i64 num1, .int .i64 tm1, .slice Dx sv.length dx] 45)).heap.size := hat6
            have hmq : mid ≤ wo.heap.size := by omega
            have hz6 := hg6.size
            have hzq : wo.heap.size ≤ w6.heap.size := by have h := hz6; simp at h; omega
            have hla : (ol ++ [(num1, tm1, sv)]).length = ol.length + 1 := by simp
            have hO7 : OwnX (fun b => b = xb ∨ b = ob ∨ b = g) encSnp (w6.setCell ⟨ob, 1, none⟩ (.slice A6 (ol.length + 1) c6)) mid 45 (.slice A6 (ol.length + 1) c6) (ol ++ [(num1, tm1, sv)]) := (hO4.out.app hown6 hg6 hat6 (fun b hb => by have := HAL.out b hb; simp; omega)).set (p := ⟨ob, 1, none⟩) (Or.inr (Or.inl rfl)) _
            have hXa := (HX.out.below (Below.refl wo.heap.size wo).drew).alloc (.cells #[.int .i64 num1, .int .i64 tm1, .slice Dx sv.length dx] 45)
            have hXb := hXa.var (X' := fun b => (b = xb ∨ b = ob ∨ (Value.slice A5 ol.length c5).ownBlock = some b) ∨ (Value.slice A6 (ol.length + 1) c6).ownBlock = some b) (fun b hb => hb.elim Or.inl (fun h => hat6'.elim (fun e => Or.inl (Or.inr (Or.inr (e.symm.trans h)))) (fun e => Or.inr (by rw [e] at h; injection h with h; exact Nat.le_of_eq h))))
            have hXc := (hXb.keep hz6 (fun b _ h2 h3 => hg6'.block b h2 (fun e => h3 (Or.inl (Or.inr (Or.inr e.symm)))))).var (X' := fun b => b = xb ∨ b = ob ∨ (Value.slice A6 (ol.length + 1) c6).ownBlock = some b) (fun b hb => hb.elim (fun h => Or.inl (Or.inl (Or.inl h))) (fun h => h.elim (fun h => Or.inl (Or.inl (Or.inr (Or.inl h)))) (fun h => Or.inl (Or.inr h))))
            have hX7 := hXc.set (p := ⟨ob, 1, none⟩) (Or.inr (Or.inl rfl)) (.slice A6 (ol.length + 1) c6)
            have hlo := hO4.out.lt
            have hB7 : Below mid w2 (w6.setCell ⟨ob, 1, none⟩ (.slice A6 (ol.length + 1) c6)) := (((HBQ.drew).alloc (show mid ≤ wo.drew.heap.size from hmq) (.cells #[.int .i64 num1, .int .i64 tm1, .slice Dx sv.length dx] 45)).grown hg6 (by simp; omega) (fun b h => (hlo b h).1)).setCell (p := ⟨ob, 1, none⟩) (by show mid ≤ ob; omega) _
            have hs7 : ob < (w6.setCell ⟨ob, 1, none⟩ (.slice A6 (ol.length + 1) c6)).heap.size := by simp [World.setCell]; omega
            have hdn := del_next (l := l') (a := a) (k := k) (by rw [hll.out]; exact hlt) hka
            have hxx : l'[k]'(by rw [hll.out]; exact hlt) = (num1, tm1, sv) := by
              have h := hxl'.out
              rw [List.getElem?_eq_getElem (by rw [hll.out]; exact hlt)] at h
              exact Option.some.inj h
            rw [hxx] at hdn
            have HZ := Lib.hid (And.intro hro7 (And.intro hrx7 (And.intro hO7 hX7)))
            have HDN := Lib.hid hdn
            have HLA := Lib.hid hla
            clear hro7 hrx7 hO7 hXa hXb hXc hX7 hlo hdn hxx hown6 hg6 hat6 hg6' hat6' hk6 hO4 hO4o HRD s0 sf s1 s2 s3 s4 v0 vf v1 v2 v3 v4 u0 uf u1 u2 u3 u4 t0 tf t1 t2 t3 t4 hz6 hzq hla
            generalize w6.setCell ⟨ob, 1, none⟩ (.slice A6 (ol.length + 1) c6) = w7 at HZ hB7 hs7 ⊢
            go_wp2
            go_roundw
            case rel => exact ⟨k + 1, A6, c6, xl, ol ++ [(num1, tm1, sv)], hlt, by go_num, hB7, hs7, hxl1.out, by rw [Hid, HDN.out, ← hol.out], HZ.out.2.1, by rw [Hid, HLA.out]; exact HZ.out.1, by rw [Hid, HLA.out]; exact HZ.out.2.2.2, by rw [Hid, HLA.out]; exact HZ.out.2.2.1⟩
            case measure => simp [intOf]; omega
    · have hkk : k = l.length := by omega
      subst hkk
      have hfin : Hid (ol = delL l a) := by rw [hdel.out, hol.out, Hid, ← hll.out, List.take_length]
      obtain ⟨o0, o1, _⟩ := blk2 hro.out
      have hbw : Below n0 w wo := (hbw1.trans (hb2.mono (by omega))).trans (hB.mono (by omega))
      have hb0o : Below W0.heap.size W0 wo := hb02.trans (hB.mono (by omega))
      have hrz6 := HRZ.out wo hb0o
      obtain ⟨q0, q1, qf⟩ := blk2 hrz6
      have hI : Hid (SlAt (encSl encSec) wo (Nw w1.heap.size mid) B im) := HIM.out.blk (fun b hb => hB.block b hb.2)
      have hoz : mid ≤ wo.heap.size := by omega
      go_wp2_with fail
      have hz := blk2_set hrz6 (.slice B im.length vc) (.slice A5 ol.length c5)
      have hbe := ((hbw.setCell (p := ⟨n0 + 1, 0, none⟩) (by show n0 ≤ n0 + 1; omega) (.slice B im.length vc)).setCell (p := ⟨n0 + 1, 1, none⟩) (by show n0 ≤ n0 + 1; omega) (.slice A5 ol.length c5))
      have hse := (((show SnRet im ol B vc A5 c5 mid w1.heap.size wo from ⟨hvc.out.1, hvc.out.2, hmid, hoz, hI.out, HO0.out.noX rfl⟩).set (p := ⟨n0 + 1, 0, none⟩) (by show n0 + 1 < w1.heap.size; omega) (.slice B im.length vc)).set (p := ⟨n0 + 1, 1, none⟩) (by show n0 + 1 < w1.heap.size; omega) (.slice A5 ol.length c5))
      change bodyPost _ _ _ _ _ ((wo.setCell ⟨(n0 + 1), 0, none⟩ (.slice B im.length vc)).setCell ⟨(n0 + 1), 1, none⟩ (.slice A5 ol.length c5))
      generalize (wo.setCell ⟨(n0 + 1), 0, none⟩ (.slice B im.length vc)).setCell ⟨(n0 + 1), 1, none⟩ (.slice A5 ol.length c5) = W3 at hz hbe hse ⊢
      obtain ⟨z0, z1, _⟩ := blk2 hz
      refine bodyPost_ret (v := .tuple #[.agg #[(.slice B im.length vc), (.slice A5 ol.length c5)], .int .i64 0]) ?_ rfl ?_
      · simp [results, Tryz.results30, Tryz.f30, go_sem, z0, z1]
      rw [hE.out, hS.out, ← hfin.out]
      exact ⟨B, vc, A5, c5, mid, rfl, hse.low (by omega), by rw [hn0]; exact hbe⟩
end Go.Proofs.YtnkmklnlaepdeaaGreat
