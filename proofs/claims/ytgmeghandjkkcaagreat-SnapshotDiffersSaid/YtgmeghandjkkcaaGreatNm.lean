/-
  The reference's Union and Between.
  snapshot.Between; the reference's SameExtents for equal data.
  snapshot.Between: the walk.
-/
import Derived.Test.YtgmeghandjkkcaaGreatRs
import Derived.Test.YtgmeghandjkkcaaGreatRc
import Derived.Test.YtgmeghandjkkcaaGreatUd
import Derived.Test.YtgmeghandjkkcaaGreatKf
import Derived.Deep.DeepCutAuto
set_option linter.unusedVariables false
set_option linter.unusedSimpArgs false
set_option linter.unusedSectionVars false
set_option linter.unnecessarySimpa false
namespace Go.Proofs.YtgmeghandjkkcaaGreat
open Go.RowKit Go.Shelf
attribute [local go_sem] Oper.semAt_some

set_option maxHeartbeats 2000000 in
theorem refUnion_any (A A' : Option Addr) (c c' : Nat) (a b : List Ext) (w : World) (h1 : SlAt encExt w (Bl w.heap.size) A a) (h2 : SlAt encExt w (Bl w.heap.size) A' b) (hs : a.length ≤ 9223372036854775807) (ht : b.length ≤ 9223372036854775807) :
    Calls Tryz.prog 52 #[.slice A a.length c, .slice A' b.length c'] w (Ret (encSl encExt) (runsL (below (fun x => (a.any (inExt x)) || (b.any (inExt x))) 4096)) w) := by
  have hc1 := Lib.hid (refMarks_any A c a w h1 hs)
  have H2 := Lib.hid h2; clear h1 h2
  have la := marksE_len a
  have lb := marksE_len b
  obtain ⟨x, hx⟩ : ∃ x, Hid (x = marksE a) := ⟨_, Lib.hid rfl⟩
  obtain ⟨y, hy⟩ : ∃ y, Hid (y = marksE b) := ⟨_, Lib.hid rfl⟩
  rw [← hx.out] at hc1 la
  rw [← hy.out] at lb
  have LA := Lib.hid la; have LB := Lib.hid lb
  clear la lb
  go_enter Tryz.func52, Tryz.ntmps52
  go_wp2_with fail
  refine hc1.out.mono ?_
  rintro e w1 ⟨bx, cx, rfl, hbx, hrx, hb1⟩
  have hc2 := refMarks_any A' c' b w1 (H2.out.fwd hb1) ht
  rw [← hy.out] at hc2
  have HC2 := Lib.hid hc2; clear hc2
  have hbx1 := hrx.lt
  have HRX := Lib.hid hrx; clear hrx
  go_wp2_with fail
  refine HC2.out.mono ?_
  rintro e w2 ⟨by_, cy, rfl, hby, hry, hb2⟩
  have HRX2 := Lib.hid (HRX.out.blk (hb2.block _ hbx1))
  have HRY := Lib.hid hry; clear hry
  have hne : bx ≠ by_ := by omega
  have hB2 : Below w.heap.size w w2 := ext_trans hb1 hb2
  go_wp2
  go_loopw [7] (fun i wr => ∃ k : Nat, k ≤ 4096 ∧ i = .int .i64 k ∧ Below w.heap.size w wr ∧ Hid (BRow wr bx (opTo (· || ·) x y k)) ∧ Hid (BRow wr by_ y)) (fun i _ => 4096 - (intOf i).toNat)
  case atStart => exact ⟨0, by omega, rfl, hB2, by rw [opTo_zero]; exact HRX2.out, HRY.out⟩
  case round =>
    obtain ⟨k, hk, rfl, hB, hrow, hrow2⟩ := hrel
    by_cases hlt : k < 4096
    · have hkx : k < x.length := by rw [LA.out]; exact hlt
      have hky : k < y.length := by rw [LB.out]; exact hlt
      have hc := hrow.out.cell (k := k) (by rw [opTo_len]; exact hkx)
      rw [opTo_at _ _ _ _ hkx] at hc
      have hf := hrow.out.frozen k
      have hc' := hrow2.out.cell (k := k) hky
      have hnn : (0 : Int) ≤ k := by omega
      have hki : (k : Int) < 4096 := by omega
      have hyd : y.getD k false = y[k]'hky := by simp [List.getD_eq_getElem?_getD, List.getElem?_eq_getElem hky]
      obtain ⟨p, hp⟩ : ∃ p, Hid (x[k]'hkx = p) := ⟨_, Lib.hid rfl⟩
      obtain ⟨q, hq⟩ : ∃ q, Hid (y[k]'hky = q) := ⟨_, Lib.hid rfl⟩
      have hnew : Hid (∀ u : Bool, u = (p || q) → (opTo (· || ·) x y k).set k u = opTo (· || ·) x y (k + 1)) := fun u hu => by
        rw [← opTo_succ _ _ _ _ hkx, hyd, hp.out, hq.out, hu]
      rw [hp.out] at hc
      rw [hq.out] at hc'
      clear hyd
      cases p with
      | true =>
        go_wp2
        go_roundw
        case rel => exact ⟨k + 1, by omega, by go_num, hB.setCell (p := ⟨bx, k, none⟩) hbx _, by rw [← hnew.out true (by simp)]; exact hrow.out.set k true, hrow2.out.blk (Below.heap_setCell _ _ _ _ (fun e => hne e.symm))⟩
        case measure => simp [intOf]; omega
      | false =>
        go_wp2
        go_roundw
        case rel => exact ⟨k + 1, by omega, by go_num, hB.setCell (p := ⟨bx, k, none⟩) hbx _, by rw [← hnew.out q (by simp)]; exact hrow.out.set k q, hrow2.out.blk (Below.heap_setCell _ _ _ _ (fun e => hne e.symm))⟩
        case measure => simp [intOf]; omega
    · have hkk : k = 4096 := by omega
      subst hkk
      have hsz := hB.size
      have hli := list_any bx cx (opTo (· || ·) x y 4096) wr hrow.out (by rw [opTo_len, LA.out]; exact Nat.le_refl _)
      have hll : (opTo (· || ·) x y 4096).length = 4096 := by rw [opTo_len, LA.out]
      rw [hll] at hli
      have hfin : Hid (idxs (opTo (· || ·) x y 4096) = below (fun x => (a.any (inExt x)) || (b.any (inExt x))) 4096) := by
        rw [hx.out, hy.out]; exact idxs_opTo _ a b
      rw [hfin.out] at hli
      have HLI := Lib.hid hli; clear hli hll
      go_wp2_with fail
      refine HLI.out.mono ?_
      rintro e w3 ⟨v, rfl, hv, hb3⟩
      go_wp2
      go_ret
      exact ⟨v, rfl, Enc.more hv (fun _ h => h.mono hsz (Nat.le_refl _)), ext_trans hB hb3⟩

theorem tyExs : SliceTy Tryz.prog 48 68 1 24 := sliceTy_mk (z := .slice none 0 0) Tryz.underlying48 (by kernel_rfl) rfl (by decide)
theorem unionL_snoc (p : List Snp) (x : Snp) (v : Int) : unionL (p ++ [x]) v = opL or (unionL p v) (runsL (secsOf x.2.2 v)) := by
  unfold unionL; rw [List.foldl_append, List.foldl_cons, List.foldl_nil]
theorem unionL_len (p : List Snp) (v : Int) : (unionL p v).length ≤ 4096 := by
  induction p using snocRec with
  | h0 => simp [unionL]
  | h1 l x _ => rw [unionL_snoc]; exact (opL_bound _ _ _).2
theorem flt_len (p : Nat → Bool) (n : Nat) : ((List.range n).filter p).length ≤ n := by
  have := List.length_filter_le p (List.range n)
  rwa [List.length_range] at this
theorem secs_len (l : List Wr) (v : Int) : (runsL (secsOf l v)).length ≤ 4096 := by
  have h := (runsL_bound 4096 (secsOf l v) (secsOf_mem l v)).2
  have h2 : (secsOf l v).length ≤ 4096 := by
    unfold secsOf
    rw [List.length_map]
    exact flt_len _ 4096
  omega
theorem seg_step {l : List Snp} {lo j : Nat} (h1 : lo ≤ j) (h2 : j < l.length) : (l.take (j + 1)).drop lo = (l.take j).drop lo ++ [l[j]] := by
  rw [List.take_succ_eq_append_getElem h2, List.drop_append_of_le_length (by simp; omega)]
theorem range_snoc {α : Type} (f : Nat → α) (n : Nat) : (List.range (n + 1)).map f = (List.range n).map f ++ [f n] := by
  rw [List.range_succ, List.map_append]; rfl
set_option maxHeartbeats 4000000 in
set_option maxRecDepth 100000 in
theorem refBetween_any (A A2 : Option Addr) (c c2 n m : Nat) (im : Img) (l : List Snp) (na nb : Int) (w : World) (hn : im.length = n) (hm : l.length = m) (h1 : SlAt (encSl encSec) w (Bl w.heap.size) A im) (h2 : SlAt encSnp w (Bl w.heap.size) A2 l) (hL : SnLim im l) (r : List (List Ext)) (hr : betS (im, l) na nb = r) (en : Int) (he : betE (im, l) na nb = en) :
    Calls Tryz.prog 22 #[.agg #[.slice A n c, .slice A2 m c2], .int .i64 na, .int .i64 nb] w fun e w' => ∃ B vc, e = .returned (.tuple #[.slice B r.length vc, .int .i64 en]) ∧ r.length ≤ vc ∧ vc ≤ maxLen ∧ SlAt (encSl encExt) w' (Nw w.heap.size w'.heap.size) B r ∧ Below w.heap.size w w' := by
  subst hn hm
  have H1 : Hid (∀ w', Below w.heap.size w w' → SlAt (encSl encSec) w' (Bl w.heap.size) A im) := fun w' hb => h1.below hb
  have H2 : Hid (∀ w', Below w.heap.size w w' → SlAt encSnp w' (Bl w.heap.size) A2 l) := fun w' hb => h2.below hb
  have HLM := Lib.hid hL; have HR := Lib.hid hr; have HE := Lib.hid he
  have hl1 := hL.ims
  have hl2 := hL.its
  clear h1 h2 hL hr he
  obtain ⟨n0, hn0⟩ : ∃ n0, w.heap.size = n0 := ⟨_, rfl⟩
  obtain ⟨W0, hW0⟩ : ∃ W0, w.alloc (.cells #[.slice A im.length c, .slice A2 l.length c2] 26) = W0 := ⟨_, rfl⟩
  have hB0 : Below n0 w W0 := by rw [← hW0, ← hn0]; exact ext_alloc (Below.refl _ _)
  have hr0 : W0.heap[n0]? = some (.cells #[.slice A im.length c, .slice A2 l.length c2] 26 (0, 0)) := by rw [← hW0, ← hn0]; exact heap_alloc_new _ _
  have hs0 : n0 < W0.heap.size := (Array.getElem?_eq_some_iff.1 hr0).1
  have hs0' : n0 ≤ W0.heap.size := by omega
  have hBL : Hid (∀ (W : World), Below n0 w W → ∀ g, Bl w.heap.size g → Bl W.heap.size g) := fun W hb g hg => by have h := hb.size; have : g < w.heap.size := hg; show g < W.heap.size; omega
  have HCC : Hid (∀ W, Below W0.heap.size W0 W → W.cell? ⟨n0, 0, none⟩ = some (.slice A im.length c) ∧ W.cell? ⟨n0, 1, none⟩ = some (.slice A2 l.length c2)) := fun W hb => by
    obtain ⟨a, b, _⟩ := blk2 ((hb.block n0 (by omega)).trans hr0)
    exact ⟨a, b⟩
  have HFI := Lib.hid (fun (num : Int) (W : World) (hb : Below n0 w W) => refFind_any A A2 c c2 im.length l.length im l num W rfl rfl ((H1.out W (by rw [hn0]; exact hb)).more (hBL.out W hb)) ((H2.out W (by rw [hn0]; exact hb)).more (hBL.out W hb)) hl1 (by omega))
  obtain ⟨ea, hea⟩ : ∃ x, Hid (findE (im, l) na = x) := ⟨_, rfl⟩
  obtain ⟨eb, heb⟩ : ∃ x, Hid (findE (im, l) nb = x) := ⟨_, rfl⟩
  obtain ⟨i, hNA⟩ : ∃ x, Hid (findN (im, l) na = x) := ⟨_, rfl⟩
  obtain ⟨k, hNB⟩ : ∃ x, Hid (findN (im, l) nb = x) := ⟨_, rfl⟩
  have hF1 := HFI.out na W0 hB0
  rw [hea.out, hNA.out] at hF1
  have HF1 := Lib.hid hF1
  obtain ⟨c0, c1⟩ := HCC.out W0 (Below.refl _ _)
  clear hr0 hF1
  go_enter Tryz.func22, Tryz.ntmps22
  go_wp2_with fail
  refine HF1.out.mono ?_
  rintro e w1 ⟨rfl, hb1⟩
  have hbw1 : Below n0 w w1 := hB0.trans (hb1.mono hs0')
  clear HF1 c0 c1 hW0
  by_cases hx0 : ea = 0
  case neg =>
    have hx0' : (ea != 0) = true := by simp [hx0]
    have hee : Hid (en = ea) := by rw [Hid, ← HE.out, betE, if_pos (by rw [hea.out]; exact hx0), hea.out]
    have hrr : Hid (r = []) := by rw [Hid, ← HR.out, betS, if_neg (by rw [HE.out, hee.out]; exact hx0)]
    clear hx0
    go_wp2_with fail
    go_ret2
    rw [hrr.out, hee.out]
    exact ⟨none, 0, rfl, by simp, by simp, SlAt.nil_, by rw [hn0]; exact hbw1⟩
  have hx0' : (ea != 0) = false := by simp [hx0]
  have hil : i < l.length := by have := (findE_ok (by rw [hea.out]; exact hx0)).2; rw [hNA.out] at this; exact this
  have hbe : Hid (betE (im, l) na nb = eb) := by rw [Hid, betE, if_neg (by rw [hea.out]; simp [hx0]), heb.out]
  have hEN : Hid (en = eb) := by rw [Hid, ← HE.out, hbe.out]
  have hF2 := HFI.out nb w1 hbw1
  rw [heb.out, hNB.out] at hF2
  have HF2 := Lib.hid hF2
  obtain ⟨c0, c1⟩ := HCC.out w1 hb1
  subst hx0
  clear hF2
  go_wp2_with fail
  refine HF2.out.mono ?_
  rintro e w2 ⟨rfl, hb2⟩
  have hb02 : Below W0.heap.size W0 w2 := ext_trans hb1 hb2
  have hbw2 : Below n0 w w2 := hB0.trans (hb02.mono hs0')
  clear HF2 c0 c1
  by_cases hy0 : eb = 0
  case neg =>
    have hy0' : (eb != 0) = true := by simp [hy0]
    have hrr : Hid (r = []) := by rw [Hid, ← HR.out, betS, if_neg (by rw [hbe.out]; exact hy0)]
    clear hy0
    go_wp2_with fail
    go_ret2
    rw [hrr.out, hEN.out]
    exact ⟨none, 0, rfl, by simp, by simp, SlAt.nil_, by rw [hn0]; exact hbw2⟩
  have hy0' : (eb != 0) = false := by simp [hy0]
  have hkl : k < l.length := by have := (findE_ok (by rw [heb.out]; exact hy0)).2; rw [hNB.out] at this; exact this
  have hBE : Hid (betE (im, l) na nb = 0) := by rw [Hid, hbe.out, hy0]
  have hEN0 : Hid (en = 0) := by rw [Hid, hEN.out, hy0]
  have hen0 := hEN0.out
  subst hen0
  clear hy0 hEN hEN0 hbe
  obtain ⟨c0, c1⟩ := HCC.out w2 hb02
  by_cases hik : i ≤ k
  · have hlh : i ≤ k := hik
    have hgt : ¬ (k : Int) < i := by omega
    have hgd : decide (k < i) = false := decide_eq_false (by omega)
    have hseg : ((List.range im.length).map fun (v : Nat) => unionL ((l.take k).drop i) v) = (List.range im.length).map fun (v : Nat) => unionL ((l.take (max i k)).drop (min i k)) v := by rw [Nat.max_eq_right hik, Nat.min_eq_left hik]
    go_wp2_with fail
    try rw [hgd]
    go_loopw [11, 12] (fun out v wr => ∃ (q : Nat) (A5 : Option Addr) (c5 : Nat) (ol : List (List Ext)), q ≤ im.length ∧ v = .int .i64 q ∧ out = .slice A5 ol.length c5 ∧ Below W0.heap.size W0 wr ∧ Hid (ol = (List.range q).map fun (v : Nat) => unionL ((l.take k).drop i) v) ∧ Hid (OwnX (fun _ => False) (encSl encExt) wr W0.heap.size 68 (.slice A5 ol.length c5) ol)) (fun _ v _ => im.length - (intOf v).toNat)
    case atStart => exact ⟨0, none, 0, [], by omega, rfl, rfl, hb02, by simp [Hid], OwnX.nil_⟩
    case round =>
      obtain ⟨wo, rfl⟩ : ∃ wo : World, wo = wr := ⟨_, rfl⟩
      obtain ⟨q, A5, c5, ol, hq, rfl, rfl, hB, hol, hown⟩ := hrel
      obtain ⟨c0, c1⟩ := HCC.out wo hB
      have hzo := hB.size
      by_cases hqt : q < im.length
      · have hqi : (q : Int) < im.length := by omega
        have hqn : (0 : Int) ≤ q := by omega
        go_wp2_with fail
        go_loopw [13, 14] (fun ls jv W => ∃ (j : Nat) (A6 : Option Addr) (c6 : Nat) (es : List Ext), i ≤ j ∧ j ≤ k ∧ jv = .int .i64 j ∧ ls = .slice A6 es.length c6 ∧ Below wo.heap.size wo W ∧ Hid (es = unionL ((l.take j).drop i) q) ∧ Hid (es.length ≤ c6 ∧ c6 ≤ maxLen) ∧ Hid (SlAt encExt W (Nw wo.heap.size W.heap.size) A6 es)) (fun _ jv _ => k - (intOf jv).toNat)
        case atStart => exact ⟨i, none, 0, [], Nat.le_refl _, hlh, rfl, rfl, Below.refl _ _, by simp [Hid, unionL], by simp [Hid], SlAt.nil_⟩
        case round =>
          obtain ⟨W, rfl⟩ : ∃ W : World, W = wr := ⟨_, rfl⟩
          obtain ⟨j, A6, c6, es, hj1, hj2, rfl, rfl, hBW, hes, hcap, hsl⟩ := hrel
          have hbW : Below W0.heap.size W0 W := ext_trans hB hBW
          obtain ⟨d0, d1⟩ := HCC.out W hbW
          by_cases hjt : j < k
          · have hjh : (j : Int) < k := by omega
            have hjl : j < l.length := by omega
            have hjli : (j : Int) < l.length := by omega
            have hjn : (0 : Int) ≤ j := by omega
            have hbw := hB0.trans (hbW.mono hs0')
            obtain ⟨b, off, D, dd, rfl, hb, g0, g1, g2, hD, hd1, hd2, _, _⟩ := (H2.out W (by rw [hn0]; exact hbw)).snp hjl
            have hst := Lib.hid (seg_step hj1 hjl)
            have hsvl := (HLM.out.sav l[j] (List.getElem_mem hjl)).1
            obtain ⟨x, hx⟩ : ∃ x, l[j] = x := ⟨_, rfl⟩
            rw [hx] at hst g2 hD hsvl
            obtain ⟨num, tm, sv⟩ := x
            simp only at g2 hD hsvl hd1
            have hnx : Hid (unionL ((l.take (j + 1)).drop i) q = opL or es (runsL (secsOf sv q))) := by rw [Hid, hst.out, unionL_snoc, ← hes.out]
            have hzW := hbw.size
            obtain ⟨ex, hex⟩ : ∃ ex, Hid (runsL (secsOf sv q) = ex) := ⟨_, rfl⟩
            have hexl : Hid (ex.length ≤ 4096) := by rw [← hex.out]; exact secs_len sv q
            have hesl : Hid (es.length ≤ 4096) := by rw [hes.out]; exact unionL_len _ _
            have HEX := Lib.hid (refExtents_any D dd sv q W (hD.more (fun g hg => by have h : g < w.heap.size := hg; show g < W.heap.size; omega)) (by omega) ⟨by omega, by omega⟩)
            rw [hex.out] at HEX hnx
            obtain ⟨nu, hnu⟩ : ∃ nu, Hid (opL or es ex = nu) := ⟨_, rfl⟩
            clear hx g0 g1 hD hd1 hd2
            go_wp2_with fail
            refine HEX.out.mono ?_
            rintro e w5 ⟨v5, rfl, ⟨A7, c7, hv7, m1, m2, m3⟩, hb5⟩
            simp only [List.cons.injEq, and_true] at hv7
            subst hv7
            have hx5 : Below wo.heap.size wo w5 := ext_trans hBW hb5
            have HUN := Lib.hid (refUnion_any A6 A7 c6 c7 es ex w5 ((hsl.out.blk (fun g hg => hb5.block g hg.2)).more (fun g hg => by have := hb5.size; have := hg.2; show g < w5.heap.size; omega)) (m3.more (fun g hg => hg.2)) (by have := hesl.out; omega) (by have := hexl.out; omega))
            have hun : Hid (runsL (below (fun x => (es.any (inExt x)) || (ex.any (inExt x))) 4096) = nu) := hnu.out
            rw [hun.out] at HUN
            clear m3 hsl HEX
            go_wp2_with fail
            refine HUN.out.mono ?_
            rintro e w6 ⟨v6, rfl, ⟨A8, c8, hv8, u1, u2, u3⟩, hb6⟩
            simp only [List.cons.injEq, and_true] at hv8
            subst hv8
            have hx6 : Below wo.heap.size wo w6 := ext_trans hx5 hb6
            have hz5 := hx5.size
            clear HUN
            go_wp2
            go_roundw
            case rel => exact ⟨j + 1, A8, c8, nu, by omega, by omega, by go_num, rfl, hx6, by rw [Hid, hnx.out, hnu.out], ⟨u1, u2⟩, u3.more (fun g hg => ⟨by have := hg.1; omega, hg.2⟩)⟩
            case measure => simp [intOf]; omega
          · have hjj : j = k := by omega
            subst hjj
            have hO := Lib.hid ((hown.out.below hBW).alloc (.cells #[.slice A6 es.length c6] 68))
            have hOo := Lib.hid hO.out.1
            have hlo := Lib.hid hown.out.lt
            have hzW := hBW.size
            have hoq : Hid (ol.length = q) := by rw [hol.out]; simp [Hid]
            have holl : ol.length ≤ 100000 := by have := hoq.out; omega
            have HRD : Hid ((encSl encExt).rd (W.alloc (.cells #[.slice A6 es.length c6] 68)) (fun g => Nw W0.heap.size (W.alloc (.cells #[.slice A6 es.length c6] 68)).heap.size g ∧ ¬ (fun _ => False) g ∧ (Value.slice A5 ol.length c5).ownBlock ≠ some g) [.slice A6 es.length c6] es) := ⟨A6, c6, rfl, hcap.out.1, hcap.out.2, OwnX.since (X := fun _ => False) (B := wo.heap.size) ((hsl.out.blk (fun g hg => Below.heap_alloc _ _ _ hg.2)).more (fun g hg => hg.mono (Nat.le_refl _) (by simp))) (by omega) (fun _ h => h.elim) (fun g hg => (hlo.out g hg).2)⟩
            have hst : Hid ((List.range (q + 1)).map (fun (v : Nat) => unionL ((l.take j).drop i) v) = ol ++ [es]) := by rw [Hid, range_snoc, hol.out, hes.out]
            clear hsl
            go_wp2_with (at_builtin; refine Hid.out ?_)
            change wpList _ _ _ _ _ _
            refine wpList_app1 (E := encSl encExt) tyExs rfl _ _ rfl rfl hOo.out es [.slice A6 es.length c6] rfl HRD.out (heap_alloc_new _ _) (fun _ h => h.1.2) (by simp; omega) (by unfold maxLen; omega) (by omega) ?_
            intro A7 c7 w7 hown7 hg7 hat7
            have hO7 : Hid (OwnX (fun _ => False) (encSl encExt) w7 W0.heap.size 68 (.slice A7 (ol.length + 1) c7) (ol ++ [es])) := hO.out.app hown7 hg7 hat7 (fun _ h => h.elim)
            have hB7 : Below W0.heap.size W0 w7 := ((hbW).alloc (by omega) (.cells #[.slice A6 es.length c6] 68)).grown hg7 (by simp; omega) (fun b h => ((hown.out.lt b h).1))
            clear hown7 hg7 hat7
            go_wp2
            go_roundw
            case rel => exact ⟨q + 1, A7, c7, ol ++ [es], hqt, by go_num, by simp, hB7, by rw [Hid, hst.out], by simpa [Hid] using hO7.out⟩
            case measure => simp [intOf]; omega
      · have hqq : q = im.length := by omega
        subst hqq
        obtain ⟨p1, p2, p3, p4⟩ := hown.out.parts
        have HP := Lib.hid (And.intro p2 (And.intro p3 p4))
        have hfin : Hid (ol = r) := by rw [Hid, hol.out, ← HR.out, betS, if_pos hBE.out, hNA.out, hNB.out]; exact hseg
        clear p1 p2 p3 p4 hown
        go_wp2
        go_ret2
        obtain ⟨p2, p3, p4⟩ := HP.out
        rw [← hfin.out]
        exact ⟨A5, c5, rfl, p2, p3, p4.more (fun g hg => ⟨by have := hg.1.1; omega, hg.1.2⟩), by rw [hn0]; exact hB0.trans (hB.mono hs0')⟩
  · have hlh : k ≤ i := by omega
    have hgt : (k : Int) < i := by omega
    have hgd : decide (k < i) = true := decide_eq_true (by omega)
    have hseg : ((List.range im.length).map fun (v : Nat) => unionL ((l.take i).drop k) v) = (List.range im.length).map fun (v : Nat) => unionL ((l.take (max i k)).drop (min i k)) v := by rw [Nat.max_eq_left hlh, Nat.min_eq_right hlh]
    clear hik
    go_wp2_with fail
    try rw [hgd]
    go_loopw [11, 12] (fun out v wr => ∃ (q : Nat) (A5 : Option Addr) (c5 : Nat) (ol : List (List Ext)), q ≤ im.length ∧ v = .int .i64 q ∧ out = .slice A5 ol.length c5 ∧ Below W0.heap.size W0 wr ∧ Hid (ol = (List.range q).map fun (v : Nat) => unionL ((l.take i).drop k) v) ∧ Hid (OwnX (fun _ => False) (encSl encExt) wr W0.heap.size 68 (.slice A5 ol.length c5) ol)) (fun _ v _ => im.length - (intOf v).toNat)
    case atStart => exact ⟨0, none, 0, [], by omega, rfl, rfl, hb02, by simp [Hid], OwnX.nil_⟩
    case round =>
      obtain ⟨wo, rfl⟩ : ∃ wo : World, wo = wr := ⟨_, rfl⟩
      obtain ⟨q, A5, c5, ol, hq, rfl, rfl, hB, hol, hown⟩ := hrel
      obtain ⟨c0, c1⟩ := HCC.out wo hB
      have hzo := hB.size
      by_cases hqt : q < im.length
      · have hqi : (q : Int) < im.length := by omega
        have hqn : (0 : Int) ≤ q := by omega
        go_wp2_with fail
        go_loopw [13, 14] (fun ls jv W => ∃ (j : Nat) (A6 : Option Addr) (c6 : Nat) (es : List Ext), k ≤ j ∧ j ≤ i ∧ jv = .int .i64 j ∧ ls = .slice A6 es.length c6 ∧ Below wo.heap.size wo W ∧ Hid (es = unionL ((l.take j).drop k) q) ∧ Hid (es.length ≤ c6 ∧ c6 ≤ maxLen) ∧ Hid (SlAt encExt W (Nw wo.heap.size W.heap.size) A6 es)) (fun _ jv _ => i - (intOf jv).toNat)
        case atStart => exact ⟨k, none, 0, [], Nat.le_refl _, hlh, rfl, rfl, Below.refl _ _, by simp [Hid, unionL], by simp [Hid], SlAt.nil_⟩
        case round =>
          obtain ⟨W, rfl⟩ : ∃ W : World, W = wr := ⟨_, rfl⟩
          obtain ⟨j, A6, c6, es, hj1, hj2, rfl, rfl, hBW, hes, hcap, hsl⟩ := hrel
          have hbW : Below W0.heap.size W0 W := ext_trans hB hBW
          obtain ⟨d0, d1⟩ := HCC.out W hbW
          by_cases hjt : j < i
          · have hjh : (j : Int) < i := by omega
            have hjl : j < l.length := by omega
            have hjli : (j : Int) < l.length := by omega
            have hjn : (0 : Int) ≤ j := by omega
            have hbw := hB0.trans (hbW.mono hs0')
            obtain ⟨b, off, D, dd, rfl, hb, g0, g1, g2, hD, hd1, hd2, _, _⟩ := (H2.out W (by rw [hn0]; exact hbw)).snp hjl
            have hst := Lib.hid (seg_step hj1 hjl)
            have hsvl := (HLM.out.sav l[j] (List.getElem_mem hjl)).1
            obtain ⟨x, hx⟩ : ∃ x, l[j] = x := ⟨_, rfl⟩
            rw [hx] at hst g2 hD hsvl
            obtain ⟨num, tm, sv⟩ := x
            simp only at g2 hD hsvl hd1
            have hnx : Hid (unionL ((l.take (j + 1)).drop k) q = opL or es (runsL (secsOf sv q))) := by rw [Hid, hst.out, unionL_snoc, ← hes.out]
            have hzW := hbw.size
            obtain ⟨ex, hex⟩ : ∃ ex, Hid (runsL (secsOf sv q) = ex) := ⟨_, rfl⟩
            have hexl : Hid (ex.length ≤ 4096) := by rw [← hex.out]; exact secs_len sv q
            have hesl : Hid (es.length ≤ 4096) := by rw [hes.out]; exact unionL_len _ _
            have HEX := Lib.hid (refExtents_any D dd sv q W (hD.more (fun g hg => by have h : g < w.heap.size := hg; show g < W.heap.size; omega)) (by omega) ⟨by omega, by omega⟩)
            rw [hex.out] at HEX hnx
            obtain ⟨nu, hnu⟩ : ∃ nu, Hid (opL or es ex = nu) := ⟨_, rfl⟩
            clear hx g0 g1 hD hd1 hd2
            go_wp2_with fail
            refine HEX.out.mono ?_
            rintro e w5 ⟨v5, rfl, ⟨A7, c7, hv7, m1, m2, m3⟩, hb5⟩
            simp only [List.cons.injEq, and_true] at hv7
            subst hv7
            have hx5 : Below wo.heap.size wo w5 := ext_trans hBW hb5
            have HUN := Lib.hid (refUnion_any A6 A7 c6 c7 es ex w5 ((hsl.out.blk (fun g hg => hb5.block g hg.2)).more (fun g hg => by have := hb5.size; have := hg.2; show g < w5.heap.size; omega)) (m3.more (fun g hg => hg.2)) (by have := hesl.out; omega) (by have := hexl.out; omega))
            have hun : Hid (runsL (below (fun x => (es.any (inExt x)) || (ex.any (inExt x))) 4096) = nu) := hnu.out
            rw [hun.out] at HUN
            clear m3 hsl HEX
            go_wp2_with fail
            refine HUN.out.mono ?_
            rintro e w6 ⟨v6, rfl, ⟨A8, c8, hv8, u1, u2, u3⟩, hb6⟩
            simp only [List.cons.injEq, and_true] at hv8
            subst hv8
            have hx6 : Below wo.heap.size wo w6 := ext_trans hx5 hb6
            have hz5 := hx5.size
            clear HUN
            go_wp2
            go_roundw
            case rel => exact ⟨j + 1, A8, c8, nu, by omega, by omega, by go_num, rfl, hx6, by rw [Hid, hnx.out, hnu.out], ⟨u1, u2⟩, u3.more (fun g hg => ⟨by have := hg.1; omega, hg.2⟩)⟩
            case measure => simp [intOf]; omega
          · have hjj : j = i := by omega
            subst hjj
            have hO := Lib.hid ((hown.out.below hBW).alloc (.cells #[.slice A6 es.length c6] 68))
            have hOo := Lib.hid hO.out.1
            have hlo := Lib.hid hown.out.lt
            have hzW := hBW.size
            have hoq : Hid (ol.length = q) := by rw [hol.out]; simp [Hid]
            have holl : ol.length ≤ 100000 := by have := hoq.out; omega
            have HRD : Hid ((encSl encExt).rd (W.alloc (.cells #[.slice A6 es.length c6] 68)) (fun g => Nw W0.heap.size (W.alloc (.cells #[.slice A6 es.length c6] 68)).heap.size g ∧ ¬ (fun _ => False) g ∧ (Value.slice A5 ol.length c5).ownBlock ≠ some g) [.slice A6 es.length c6] es) := ⟨A6, c6, rfl, hcap.out.1, hcap.out.2, OwnX.since (X := fun _ => False) (B := wo.heap.size) ((hsl.out.blk (fun g hg => Below.heap_alloc _ _ _ hg.2)).more (fun g hg => hg.mono (Nat.le_refl _) (by simp))) (by omega) (fun _ h => h.elim) (fun g hg => (hlo.out g hg).2)⟩
            have hst : Hid ((List.range (q + 1)).map (fun (v : Nat) => unionL ((l.take j).drop k) v) = ol ++ [es]) := by rw [Hid, range_snoc, hol.out, hes.out]
            clear hsl
            go_wp2_with (at_builtin; refine Hid.out ?_)
            change wpList _ _ _ _ _ _
            refine wpList_app1 (E := encSl encExt) tyExs rfl _ _ rfl rfl hOo.out es [.slice A6 es.length c6] rfl HRD.out (heap_alloc_new _ _) (fun _ h => h.1.2) (by simp; omega) (by unfold maxLen; omega) (by omega) ?_
            intro A7 c7 w7 hown7 hg7 hat7
            have hO7 : Hid (OwnX (fun _ => False) (encSl encExt) w7 W0.heap.size 68 (.slice A7 (ol.length + 1) c7) (ol ++ [es])) := hO.out.app hown7 hg7 hat7 (fun _ h => h.elim)
            have hB7 : Below W0.heap.size W0 w7 := ((hbW).alloc (by omega) (.cells #[.slice A6 es.length c6] 68)).grown hg7 (by simp; omega) (fun b h => ((hown.out.lt b h).1))
            clear hown7 hg7 hat7
            go_wp2
            go_roundw
            case rel => exact ⟨q + 1, A7, c7, ol ++ [es], hqt, by go_num, by simp, hB7, by rw [Hid, hst.out], by simpa [Hid] using hO7.out⟩
            case measure => simp [intOf]; omega
      · have hqq : q = im.length := by omega
        subst hqq
        obtain ⟨p1, p2, p3, p4⟩ := hown.out.parts
        have HP := Lib.hid (And.intro p2 (And.intro p3 p4))
        have hfin : Hid (ol = r) := by rw [Hid, hol.out, ← HR.out, betS, if_pos hBE.out, hNA.out, hNB.out]; exact hseg
        clear p1 p2 p3 p4 hown
        go_wp2
        go_ret2
        obtain ⟨p2, p3, p4⟩ := HP.out
        rw [← hfin.out]
        exact ⟨A5, c5, rfl, p2, p3, p4.more (fun g hg => ⟨by have := hg.1.1; omega, hg.1.2⟩), by rw [hn0]; exact hB0.trans (hB.mono hs0')⟩
end Go.Proofs.YtgmeghandjkkcaaGreat

namespace Go.Proofs.YtgmeghandjkkcaaGreat
open Go.RowKit Go.Shelf
attribute [local go_sem] Oper.semAt_some

set_option maxHeartbeats 2000000 in
theorem sameExts_true (A A' : Option Addr) (c c' n : Nat) (S S' : Nat → Prop) (l : List (List Ext)) (w : World) (hn : l.length = n) (h1 : SlAt (encSl encExt) w S A l) (h2 : SlAt (encSl encExt) w S' A' l) (hs : n ≤ 9223372036854775807) :
    Calls Tryz.prog 24 #[.slice A n c, .slice A' n c'] w fun e w' => e = .returned (.bool true) ∧ Drew w w' := by
  subst hn
  go_enter Tryz.func24, Tryz.ntmps24
  go_wp2
  go_loopw [5] (fun i wr => ∃ k : Nat, k ≤ l.length ∧ i = .int .i64 k ∧ Drew w wr) (fun i _ => l.length - (intOf i).toNat)
  case atStart => exact ⟨0, by omega, rfl, Drew.refl _⟩
  case round =>
    obtain ⟨wo, rfl⟩ : ∃ wo : World, wo = wr := ⟨_, rfl⟩
    obtain ⟨k, hk, rfl, hd⟩ := hrel
    replace h1 := h1.drew hd
    replace h2 := h2.drew hd
    by_cases hlt : k < l.length
    · obtain ⟨b, off, D, dc, rfl, hb, g0, hD, hd1, hd2⟩ := h1.sl hlt
      obtain ⟨b', off', D', dc', rfl, hb', g0', hD', hd1', hd2'⟩ := h2.sl hlt
      have hnn : (0 : Int) ≤ k := by omega
      have hki : (k : Int) < l.length := by omega
      have hmx : (l[k]'hlt).length ≤ 9223372036854775807 := by unfold maxLen at hd2; omega
      obtain ⟨x, hx⟩ : ∃ x, l[k]'hlt = x := ⟨_, rfl⟩
      rw [hx] at g0 g0' hD hD' hmx
      have HD := Lib.hid hD; have HD' := Lib.hid hD'
      clear hD hD' hd1 hd2 hd1' hd2' hb hb' hx
      go_wp2_with fail
      go_quiet (fail)
      go_wp2
      go_loopw [6] (fun i wr => ∃ j : Nat, j ≤ x.length ∧ i = .int .i64 j ∧ Drew wo wr) (fun i _ => x.length - (intOf i).toNat)
      case atStart => exact ⟨0, by omega, rfl, (Drew.refl _).step _⟩
      case round =>
        obtain ⟨wp, rfl⟩ : ∃ wp : World, wp = wr := ⟨_, rfl⟩
        obtain ⟨j, hj, rfl, hdd⟩ := hrel
        have f0 := (hdd.cell ⟨b, off + k, none⟩).trans g0
        have f0' := (hdd.cell ⟨b', off' + k, none⟩).trans g0'
        by_cases hjl : j < x.length
        · obtain ⟨bb, oo, rfl, _, u0, u1, _, _⟩ := (HD.out.drew hdd).ext hjl
          obtain ⟨bb', oo', rfl, _, u0', u1', _, _⟩ := (HD'.out.drew hdd).ext hjl
          have hjn : (0 : Int) ≤ j := by omega
          have hji : (j : Int) < x.length := by omega
          have hq := fun W => run_eq_ext W (x[j]'hjl).1 (x[j]'hjl).2 (x[j]'hjl).1 (x[j]'hjl).2
          have hqt : (x[j]'hjl == x[j]'hjl) = true := by simp
          go_wp2_with fail
          go_quiet (fail)
          go_wp2
          go_roundw
          case rel => exact ⟨j + 1, hjl, by go_num, hdd.step _⟩
          case measure => simp [intOf]; omega
        · have hjj : j = x.length := by omega
          subst hjj
          go_wp2
          go_roundw
          case rel => exact ⟨k + 1, hlt, by go_num, hd.trans hdd⟩
          case measure => simp [intOf]; omega
    · have hkk : k = l.length := by omega
      subst hkk
      go_wp2
      go_ret
      exact ⟨rfl, hd⟩
end Go.Proofs.YtgmeghandjkkcaaGreat

namespace Go.Proofs.YtgmeghandjkkcaaGreat
open Go.RowKit Go.Shelf
attribute [local go_sem] Oper.semAt_some

/-- make([][]api.Extent, n) -/
theorem makeExs (n : Nat) (hn : n ≤ 1000000) (w : World) : ∃ cur : Array Value, cur.size = n ∧ (∀ j, j < n → cur[j]? = some (.slice none 0 0)) ∧ (Instr.makeSlice 48 (.int .i64 n) (.int .i64 n)).run Tryz.prog w = .ok (.slice (some ⟨w.heap.size, 0, none⟩) n n) (w.alloc (.cells cur 68)) := by
  have hinfo : (Tryz.prog.info? 68).map (fun i => (i.zero, i.size, i.bytes)) = some (some (.slice none 0 0), 1, 24) := by kernel_rfl
  obtain ⟨i, hi, hz, hsz, hby⟩ := info_parts hinfo
  have hbi : ((i.bytes : Int)) * (n : Int) ≤ 281474976710656 := by rw [hby]; omega
  have hr := run_make (P := Tryz.prog) w 48 68 i _ Tryz.underlying48 hi hz .i64 .i64 n n (by omega) (by omega) hbi (by omega)
  simp only [Int.toNat_natCast] at hr
  refine ⟨_, by rw [size_madeCells, hsz, Nat.mul_one], fun j hj => ?_, hr⟩
  simp only [madeCells, Value.cells, hsz]
  rw [Array.getElem?_map, Array.getElem?_range, if_pos (by omega)]
  simp only [Option.map_some, Option.some.injEq]
  show (#[Value.slice none 0 0] : Array Value)[j % 1]! = _
  rw [Nat.mod_one]; rfl
/-- a row of lists of extents: the block g, and their memory behind lo -/
def ExRow (w : World) (g lo : Nat) (l : List (List Ext)) : Prop :=
  ∃ cur : Array Value, w.heap[g]? = some (.cells cur 68 (0, 0)) ∧ ∀ v (h : v < l.length), ∃ A c, cur[v]? = some (.slice A l[v].length c) ∧ l[v].length ≤ c ∧ c ≤ maxLen ∧ SlAt encExt w (fun b => Nw lo w.heap.size b ∧ b ≠ g) A l[v]
theorem ExRow.lt {w : World} {g lo : Nat} {l : List (List Ext)} (h : ExRow w g lo l) : g < w.heap.size := by
  obtain ⟨_, h, _⟩ := h; exact (Array.getElem?_eq_some_iff.1 h).1
theorem ExRow.at_ {w : World} {g lo : Nat} {l : List (List Ext)} (h : ExRow w g lo l) {v : Nat} (hv : v < l.length) : ∃ A c, w.cell? ⟨g, v, none⟩ = some (.slice A l[v].length c) ∧ l[v].length ≤ c ∧ c ≤ maxLen ∧ SlAt encExt w (fun b => Nw lo w.heap.size b ∧ b ≠ g) A l[v] := by
  obtain ⟨cur, h1, h2⟩ := h
  obtain ⟨A, c, h3, h4⟩ := h2 v hv
  exact ⟨A, c, by rw [cell_of_row w g v _ _ _ h1]; exact h3, h4⟩
theorem ExRow.frozen {w : World} {g lo : Nat} {l : List (List Ext)} (h : ExRow w g lo l) (v : Nat) : w.frozen? ⟨g, v, none⟩ = false := by
  obtain ⟨cur, h1, _⟩ := h
  simp [World.frozen?, h1]
theorem ExRow.below {w w' : World} {g lo : Nat} {l : List (List Ext)} (h : ExRow w g lo l) (hb : Below w.heap.size w w') : ExRow w' g lo l := by
  have hlt := h.lt
  obtain ⟨cur, h1, h2⟩ := h
  refine ⟨cur, (hb.block g hlt).trans h1, fun v hv => ?_⟩
  obtain ⟨A, c, h3, h4, h5, h6⟩ := h2 v hv
  exact ⟨A, c, h3, h4, h5, (h6.blk (fun b hb' => hb.block b hb'.1.2)).more (fun b hb' => ⟨⟨hb'.1.1, by have := hb'.1.2; have := hb.size; omega⟩, hb'.2⟩)⟩
theorem ExRow.put {w : World} {g lo : Nat} {l : List (List Ext)} (h : ExRow w g lo l) {v : Nat} (hv : v < l.length) {r : List Ext} {A : Option Addr} {c : Nat} (h3 : r.length ≤ c) (h4 : c ≤ maxLen) (hs : SlAt encExt w (fun b => Nw lo w.heap.size b ∧ b ≠ g) A r) : ExRow (w.setCell ⟨g, v, none⟩ (.slice A r.length c)) g lo (l.set v r) := by
  have hz : (w.setCell ⟨g, v, none⟩ (.slice A r.length c)).heap.size = w.heap.size := by simp [World.setCell]
  have hk : ∀ b, b ≠ g → (w.setCell ⟨g, v, none⟩ (.slice A r.length c)).heap[b]? = w.heap[b]? := fun b hb => heap_setCell_other w ⟨g, v, none⟩ b _ hb
  obtain ⟨cur, h1, h2⟩ := h
  have hsz : v < cur.size := by
    obtain ⟨_, _, h3, _⟩ := h2 v hv
    exact (Array.getElem?_eq_some_iff.1 h3).1
  refine ⟨cur.set! v (.slice A r.length c), ?_, fun u hu => ?_⟩
  · simp [World.setCell, Array.getElem?_modify, h1]
  · rw [List.length_set] at hu
    by_cases e : v = u
    · subst e
      refine ⟨A, c, ?_, ?_⟩
      · simp [hsz]
      · simp only [List.getElem_set_self]
        exact ⟨h3, h4, (hs.blk (fun b hb => hk b hb.2)).more (fun b hb => by rw [hz]; exact hb)⟩
    · obtain ⟨A', c', k1, k2, k3, k4⟩ := h2 u hu
      refine ⟨A', c', ?_, ?_⟩
      · simp only [List.getElem_set_ne e]
        rw [← k1]; simp [Array.getElem?_setIfInBounds, e]
      · simp only [List.getElem_set_ne e]
        exact ⟨k2, k3, (k4.blk (fun b hb => hk b hb.2)).more (fun b hb => by rw [hz]; exact hb)⟩
theorem ExRow.sl {w : World} {g lo : Nat} {l : List (List Ext)} (h : ExRow w g lo l) (hg : lo ≤ g) : SlAt (encSl encExt) w (Nw lo w.heap.size) (some ⟨g, 0, none⟩) l := by
  have hlt := h.lt
  refine fun _ => ⟨g, 0, rfl, ⟨hg, hlt⟩, fun i x hx => ?_⟩
  obtain ⟨hi, rfl⟩ := List.getElem?_eq_some_iff.1 hx
  obtain ⟨A, c, h1, h2, h3, h4⟩ := h.at_ hi
  refine ⟨[.slice A l[i].length c], fun j v hv => ?_, A, c, rfl, h2, h3, h4.more (fun b hb => hb.1)⟩
  cases j with
  | zero =>
    simp at hv
    rw [← hv, ← h1]
    congr 2
    show 0 + i * 1 + 0 = i
    omega
  | succ j => simp at hv
theorem ExRow.made {w : World} {n lo : Nat} {cur : Array Value} (hc : ∀ j, j < n → cur[j]? = some (.slice none 0 0)) : ExRow (w.alloc (.cells cur 68)) w.heap.size lo (List.replicate n []) := by
  refine ⟨cur, heap_alloc_new _ _, fun v hv => ?_⟩
  rw [List.length_replicate] at hv
  exact ⟨none, 0, by simp [hc v hv], by simp, by simp, by simp only [List.getElem_replicate]; exact SlAt.nil_⟩
/-- the row in the midst of an item -/
def exMid (l : List Snp) (lo t n q : Nat) : List (List Ext) := (List.range n).map fun (v : Nat) => unionL ((l.take (lo + t + if v < q then 1 else 0)).drop lo) v
theorem exMid_len {l : List Snp} {lo t n q : Nat} : (exMid l lo t n q).length = n := by simp [exMid]
theorem exMid_at {l : List Snp} {lo t n q v : Nat} (h : v < n) : (exMid l lo t n q)[v]'(by rw [exMid_len]; exact h) = unionL ((l.take (lo + t + if v < q then 1 else 0)).drop lo) v := by simp [exMid]
theorem exMid_zero {l : List Snp} {lo n : Nat} : exMid l lo 0 n 0 = List.replicate n [] := by
  refine List.ext_getElem (by simp [exMid]) fun v h1 h2 => ?_
  rw [exMid_at (by rw [exMid_len] at h1; exact h1)]
  simp [unionL, List.drop_eq_nil_of_le]
theorem exMid_end {l : List Snp} {lo t n : Nat} : exMid l lo t n n = exMid l lo (t + 1) n 0 := by
  refine List.ext_getElem (by simp [exMid]) fun v h1 h2 => ?_
  have hv : v < n := by rw [exMid_len] at h1; exact h1
  rw [exMid_at hv, exMid_at hv, if_pos hv, if_neg (by omega)]
  rfl
theorem exMid_step {l : List Snp} {lo t n q : Nat} (hq : q < n) {r : List Ext} (hr : r = unionL ((l.take (lo + t + 1)).drop lo) q) : (exMid l lo t n q).set q r = exMid l lo t n (q + 1) := by
  refine List.ext_getElem (by simp [exMid]) fun v h1 h2 => ?_
  have hv : v < n := by rw [exMid_len] at h2; exact h2
  rw [exMid_at hv, List.getElem_set]
  by_cases e : q = v
  · subst e
    rw [if_pos rfl, hr, if_pos (by omega)]
  · rw [if_neg e, exMid_at hv]
    by_cases h : v < q
    · rw [if_pos h, if_pos (by omega)]
    · rw [if_neg h, if_neg (by omega)]
set_option maxHeartbeats 4000000 in
set_option maxRecDepth 100000 in
theorem snBetween_any (A A2 : Option Addr) (c c2 n m : Nat) (im : Img) (l : List Snp) (na nb : Int) (w : World) (hn : im.length = n) (hm : l.length = m) (h1 : SlAt (encSl encSec) w (Bl w.heap.size) A im) (h2 : SlAt encSnp w (Bl w.heap.size) A2 l) (hL : SnLim im l) (hc2 : m ≤ c2) (r : List (List Ext)) (hr : betS (im, l) na nb = r) (en : Int) (he : betE (im, l) na nb = en) :
    Calls Tryz.prog 21 #[.agg #[.slice A n c, .slice A2 m c2], .int .i64 na, .int .i64 nb] w fun e w' => ∃ B vc, e = .returned (.tuple #[.slice B r.length vc, .int .i64 en]) ∧ r.length ≤ vc ∧ vc ≤ maxLen ∧ SlAt (encSl encExt) w' (Nw w.heap.size w'.heap.size) B r ∧ Below w.heap.size w w' := by
  subst hn hm
  have H1 : Hid (∀ w', Below w.heap.size w w' → SlAt (encSl encSec) w' (Bl w.heap.size) A im) := fun w' hb => h1.below hb
  have H2 : Hid (∀ w', Below w.heap.size w w' → SlAt encSnp w' (Bl w.heap.size) A2 l) := fun w' hb => h2.below hb
  have HLM := Lib.hid hL; have HR := Lib.hid hr; have HE := Lib.hid he
  have hl1 := hL.ims
  have hl2 := hL.its
  have HC2 := Lib.hid hc2
  clear h1 h2 hL hr he hc2
  obtain ⟨n0, hn0⟩ : ∃ n0, w.heap.size = n0 := ⟨_, rfl⟩
  obtain ⟨W0, hW0⟩ : ∃ W0, w.alloc (.cells #[.slice A im.length c, .slice A2 l.length c2] 26) = W0 := ⟨_, rfl⟩
  have hB0 : Below n0 w W0 := by rw [← hW0, ← hn0]; exact ext_alloc (Below.refl _ _)
  have hr0 : W0.heap[n0]? = some (.cells #[.slice A im.length c, .slice A2 l.length c2] 26 (0, 0)) := by rw [← hW0, ← hn0]; exact heap_alloc_new _ _
  have hs0 : n0 < W0.heap.size := (Array.getElem?_eq_some_iff.1 hr0).1
  have hs0' : n0 ≤ W0.heap.size := by omega
  have hBL : Hid (∀ (W : World), Below n0 w W → ∀ g, Bl w.heap.size g → Bl W.heap.size g) := fun W hb g hg => by have h := hb.size; have : g < w.heap.size := hg; show g < W.heap.size; omega
  have HCC : Hid (∀ W, Below W0.heap.size W0 W → W.cell? ⟨n0, 0, none⟩ = some (.slice A im.length c) ∧ W.cell? ⟨n0, 1, none⟩ = some (.slice A2 l.length c2)) := fun W hb => by
    obtain ⟨a, b, _⟩ := blk2 ((hb.block n0 (by omega)).trans hr0)
    exact ⟨a, b⟩
  have HFI := Lib.hid (fun (num : Int) (W : World) (hb : Below n0 w W) => snFind_any A A2 c c2 im.length l.length im l num W rfl rfl ((H1.out W (by rw [hn0]; exact hb)).more (hBL.out W hb)) ((H2.out W (by rw [hn0]; exact hb)).more (hBL.out W hb)) hl1 (by omega))
  obtain ⟨ea, hea⟩ : ∃ x, Hid (findE (im, l) na = x) := ⟨_, rfl⟩
  obtain ⟨eb, heb⟩ : ∃ x, Hid (findE (im, l) nb = x) := ⟨_, rfl⟩
  obtain ⟨i, hNA⟩ : ∃ x, Hid (findN (im, l) na = x) := ⟨_, rfl⟩
  obtain ⟨k, hNB⟩ : ∃ x, Hid (findN (im, l) nb = x) := ⟨_, rfl⟩
  have hF1 := HFI.out na W0 hB0
  rw [hea.out, hNA.out] at hF1
  have HF1 := Lib.hid hF1
  obtain ⟨c0, c1⟩ := HCC.out W0 (Below.refl _ _)
  clear hr0 hF1
  go_enter Tryz.func21, Tryz.ntmps21
  go_wp2_with fail
  refine HF1.out.mono ?_
  rintro e w1 ⟨rfl, hb1⟩
  have hbw1 : Below n0 w w1 := hB0.trans (hb1.mono hs0')
  clear HF1 c0 c1 hW0
  by_cases hx0 : ea = 0
  case neg =>
    have hx0' : (ea != 0) = true := by simp [hx0]
    have hee : Hid (en = ea) := by rw [Hid, ← HE.out, betE, if_pos (by rw [hea.out]; exact hx0), hea.out]
    have hrr : Hid (r = []) := by rw [Hid, ← HR.out, betS, if_neg (by rw [HE.out, hee.out]; exact hx0)]
    clear hx0
    go_wp2_with fail
    go_ret2
    rw [hrr.out, hee.out]
    exact ⟨none, 0, rfl, by simp, by simp, SlAt.nil_, by rw [hn0]; exact hbw1⟩
  have hx0' : (ea != 0) = false := by simp [hx0]
  have hil : i < l.length := by have := (findE_ok (by rw [hea.out]; exact hx0)).2; rw [hNA.out] at this; exact this
  have hbe : Hid (betE (im, l) na nb = eb) := by rw [Hid, betE, if_neg (by rw [hea.out]; simp [hx0]), heb.out]
  have hEN : Hid (en = eb) := by rw [Hid, ← HE.out, hbe.out]
  have hF2 := HFI.out nb w1 hbw1
  rw [heb.out, hNB.out] at hF2
  have HF2 := Lib.hid hF2
  obtain ⟨c0, c1⟩ := HCC.out w1 hb1
  subst hx0
  clear hF2
  go_wp2_with fail
  refine HF2.out.mono ?_
  rintro e w2 ⟨rfl, hb2⟩
  have hb02 : Below W0.heap.size W0 w2 := ext_trans hb1 hb2
  have hbw2 : Below n0 w w2 := hB0.trans (hb02.mono hs0')
  clear HF2 c0 c1
  by_cases hy0 : eb = 0
  case neg =>
    have hy0' : (eb != 0) = true := by simp [hy0]
    have hrr : Hid (r = []) := by rw [Hid, ← HR.out, betS, if_neg (by rw [hbe.out]; exact hy0)]
    clear hy0
    go_wp2_with fail
    go_ret2
    rw [hrr.out, hEN.out]
    exact ⟨none, 0, rfl, by simp, by simp, SlAt.nil_, by rw [hn0]; exact hbw2⟩
  have hy0' : (eb != 0) = false := by simp [hy0]
  have hkl : k < l.length := by have := (findE_ok (by rw [heb.out]; exact hy0)).2; rw [hNB.out] at this; exact this
  have hBE : Hid (betE (im, l) na nb = 0) := by rw [Hid, hbe.out, hy0]
  have hEN0 : Hid (en = 0) := by rw [Hid, hEN.out, hy0]
  have hen0 := hEN0.out
  subst hen0
  clear hy0 hEN hEN0 hbe
  obtain ⟨c0, c1⟩ := HCC.out w2 hb02
  obtain ⟨cur, hcs, hcz, hmk⟩ := makeExs im.length (by omega) w2
  have HCZ := Lib.hid hcz
  clear hcs hcz
  obtain ⟨g, hg⟩ : ∃ g, w2.heap.size = g := ⟨_, rfl⟩
  go_upto_region 8 with (fail)
  obtain ⟨w3, hw3⟩ : ∃ w3, w2.alloc (.cells cur 68) = w3 := ⟨_, rfl⟩
  try rw [hw3]
  try rw [hg]
  have hb3 : Below w2.heap.size w2 w3 := by rw [← hw3]; exact ext_alloc (Below.refl _ _)
  have hx3 : Hid (ExRow w3 g g (exMid l 0 0 im.length 0)) := by
    rw [exMid_zero, ← hw3, ← hg]; exact ExRow.made HCZ.out
  have hb03 : Below W0.heap.size W0 w3 := ext_trans hb02 hb3
  have hzg : W0.heap.size ≤ g := by rw [← hg]; exact hb02.size
  have hb3g : Below g w2 w3 := by rw [← hg]; exact hb3
  clear hw3 hmk HCZ c0 c1 hb3
  obtain ⟨c0, c1⟩ := HCC.out w3 hb03
  have hc2m := HC2.out
  by_cases hik : i ≤ k
  · have hlh : i ≤ k := hik
    have hiki : (i : Int) ≤ k := by omega
    have hseg : ((List.range im.length).map fun (v : Nat) => unionL ((l.take k).drop i) v) = (List.range im.length).map fun (v : Nat) => unionL ((l.take (max i k)).drop (min i k)) v := by rw [Nat.max_eq_right hik, Nat.min_eq_left hik]
    have HSEG := Lib.hid hseg
    clear hseg hik
    have hlk : i < l.length := by omega
    obtain ⟨b, off, D0, d0, rfl, _, _, _, _, _, _, _, _, _⟩ := (H2.out w3 (by rw [hn0]; exact hB0.trans (hb03.mono hs0'))).snp hlk
    have hcl : ¬ c2 = i := by omega
    have hLO : (0 : Int) ≤ i := by omega
    have hHC : (k : Int) ≤ c2 := by omega
    have hmin : min (i : Int) (k : Int) = i := by omega
    have hmax : max (i : Int) (k : Int) = k := by omega
    obtain ⟨dd, hdd⟩ : ∃ dd, k - i = dd := ⟨_, rfl⟩
    have hdh : Hid (i + dd = k) := by rw [Hid]; omega
    go_upto_region 9 with (fail)
    clear c0 c1 hcl hHC hmin hmax hdd
    go_loopw [47] (fun iv wr => ∃ t : Nat, t ≤ dd ∧ iv = .int .i64 t ∧ Below g w2 wr ∧ Hid (ExRow wr g g (exMid l i t im.length 0))) (fun iv _ => dd - (intOf iv).toNat)
    case atStart => exact ⟨0, by omega, rfl, hb3g, by
      have h := hx3.out
      rw [exMid_zero] at h
      rw [Hid, exMid_zero]; exact h⟩
    case round =>
      obtain ⟨wo, rfl⟩ : ∃ wo : World, wo = wr := ⟨_, rfl⟩
      obtain ⟨t, ht, rfl, hB, hex⟩ := hrel
      by_cases htt : t < dd
      · have hti : (t : Int) < dd := by omega
        have htn : (0 : Int) ≤ t := by omega
        have hjl : i + t < l.length := by have := hdh.out; omega
        have hbw := hbw2.trans (hB.mono (by omega))
        obtain ⟨b', off', D, dc, he, hbb, g0, g1, g2, hD, hd1, hd2, hi1, hi2⟩ := (H2.out wo (by rw [hn0]; exact hbw)).snp hjl
        simp only [Option.some.injEq, Addr.mk.injEq, and_true] at he
        obtain ⟨rfl, rfl⟩ := he
        have ha : off + (i + t) * 3 = off + i * 3 + t * 3 := by omega
        rw [ha] at g0 g1 g2
        have hst := Lib.hid (seg_step (lo := i) (j := i + t) (by omega) hjl)
        have hsvl := (HLM.out.sav l[i + t] (List.getElem_mem hjl)).1
        obtain ⟨x, hx⟩ : ∃ x, l[i + t] = x := ⟨_, rfl⟩
        rw [hx] at hst g0 g1 g2 hD hd1 hsvl
        obtain ⟨num, tm, sv⟩ := x
        simp only at g0 g1 g2 hD hd1 hsvl
        have HD : Hid (∀ V, Below g w2 V → SlAt encWr V (Bl V.heap.size) D sv) := fun V hV => by
          have h3 := hD.blk (w' := V) (fun b hb => by
            have h5 : b < w.heap.size := hb
            exact (hV.block b (by omega)).trans (hB.block b (by omega)).symm)
          exact h3.more (fun b hb => by have h5 : b < w.heap.size := hb; have := (hbw2.trans (hV.mono (by omega))).size; show b < V.heap.size; omega)
        obtain ⟨pb, hpb⟩ : ∃ pb, wo.heap.size = pb := ⟨_, rfl⟩
        go_upto_region 11 with (fail)
        obtain ⟨w4, hw4⟩ : ∃ w4, wo.alloc (.cells #[.int .i64 num, .int .i64 tm, .slice D sv.length dc] 76) = w4 := ⟨_, rfl⟩
        try rw [hw4]
        try rw [hpb]
        have hb4 : Below wo.heap.size wo w4 := by rw [← hw4]; exact ext_alloc (Below.refl _ _)
        have hr4 : w4.heap[pb]? = some (.cells #[.int .i64 num, .int .i64 tm, .slice D sv.length dc] 76 (0, 0)) := by rw [← hw4, ← hpb]; exact heap_alloc_new _ _
        have hgo := hex.out.lt
        have hgp : g < pb := by omega
        have hx4 := Lib.hid (hex.out.below hb4)
        have HR4 := Lib.hid hr4
        have hp4 : pb < w4.heap.size := (Array.getElem?_eq_some_iff.1 hr4).1
        have hB4 : Below g w2 w4 := hB.trans (hb4.mono (by omega))
        clear hw4 hr4 hb4 g0 g1 g2 hD hd1 hd2 hx ha hbb hi1 hi2 hex
        go_wp2_with fail
        go_loopw [53] (fun iv W => ∃ q : Nat, q ≤ im.length ∧ iv = .int .i64 q ∧ Below g w2 W ∧ pb < W.heap.size ∧ Hid (W.heap[pb]? = some (.cells #[.int .i64 num, .int .i64 tm, .slice D sv.length dc] 76 (0, 0))) ∧ Hid (ExRow W g g (exMid l i t im.length q))) (fun iv _ => im.length - (intOf iv).toNat)
        case atStart => exact ⟨0, by omega, rfl, hB4, hp4, HR4.out, hx4.out⟩
        case round =>
          obtain ⟨W, rfl⟩ : ∃ W : World, W = wr := ⟨_, rfl⟩
          obtain ⟨q, hq, rfl, hBW, hpW, hrW, hexW⟩ := hrel
          by_cases hqt : q < im.length
          · have hqi : (q : Int) < im.length := by omega
            have hqn : (0 : Int) ≤ q := by omega
            obtain ⟨A6, c6, k1, k2, k3, k4⟩ := hexW.out.at_ (v := q) (by rw [exMid_len]; exact hqt)
            have hat : (exMid l i t im.length q)[q]'(by rw [exMid_len]; exact hqt) = unionL ((l.take (i + t)).drop i) q := by rw [exMid_at hqt, if_neg (by omega)]; rfl
            rw [hat] at k1 k2 k4
            obtain ⟨es, hes⟩ : ∃ es, Hid (unionL ((l.take (i + t)).drop i) q = es) := ⟨_, rfl⟩
            have hesl : Hid (es.length ≤ 4096) := by rw [← hes.out]; exact unionL_len _ _
            rw [hes.out] at k1 k2 k4
            obtain ⟨ex, hexs⟩ : ∃ ex, Hid (runsL (secsOf sv q) = ex) := ⟨_, rfl⟩
            have hexl : Hid (ex.length ≤ 4096) := by rw [← hexs.out]; exact secs_len sv q
            obtain ⟨nu, hnu⟩ : ∃ nu, Hid (opL or es ex = nu) := ⟨_, rfl⟩
            have hnx : Hid (nu = unionL ((l.take (i + t + 1)).drop i) q) := by rw [Hid, hst.out, unionL_snoc, hes.out]; show nu = opL or es (runsL (secsOf sv q)); rw [hexs.out, hnu.out]
            obtain ⟨_, _, p2, _⟩ := blk3 hrW.out
            have hfr := hexW.out.frozen q
            have hgW := hexW.out.lt
            have hbd : Below W.heap.size W W.drew := (Below.refl _ _).drew
            have HSX : Hid (∀ V, Below W.heap.size W V → (V.cell? ⟨g, q, none⟩ = some (.slice A6 es.length c6) ∧ V.frozen? ⟨g, q, none⟩ = false) ∧ V.cell? ⟨pb, 2, none⟩ = some (.slice D sv.length dc)) := fun V hb => ⟨⟨(World.cell?_of_block (a := ⟨g, q, none⟩) (hb.block g hgW)).trans k1, (World.frozen?_of_block (a := ⟨g, q, none⟩) (hb.block g hgW)).trans hfr⟩, (World.cell?_of_block (a := ⟨pb, 2, none⟩) (hb.block pb hpW)).trans p2⟩
            have HSE : Hid (∀ V, Below W.heap.size W V → SlAt encExt V (Bl V.heap.size) A6 es) := fun V hb => (k4.blk (fun b hb' => hb.block b hb'.1.2)).more (fun b hb' => by have := hb'.1.2; have := hb.size; show b < V.heap.size; omega)
            have HEX := Lib.hid (extents_any D dc sv q W.drew (HD.out W.drew hBW.drew) (by omega) ⟨by omega, by omega⟩)
            rw [hexs.out] at HEX
            have HK := Lib.hid (And.intro k2 k3)
            obtain ⟨⟨s0, sf⟩, s1⟩ := HSX.out W.drew hbd
            clear k1 k2 k3 k4 p2 hfr hat
            go_upto_region 14 with (fail)
            go_region_law (first | (go_simp; go_at_call 50; refine (union_any A6 A7 c6 c7 es.length ex.length es ex nu rfl rfl hnu.out w5 (HSE.out w5 hx5) (HM.out.2.2.more (fun _ h => h.2)) (by have := hesl.out; omega) (by have := hexl.out; omega) HK.out ⟨HM.out.1, HM.out.2.1⟩).mono ?_; rintro e w6 ⟨A8, c8, rfl, u1, u2, u3, hb6⟩; have hx6 : Below W.heap.size W w6 := ext_trans hx5 hb6; obtain ⟨⟨y0, yf⟩, y1⟩ := HSX.out w6 hx6) | (go_simp; go_at_call 51; refine HEX.out.mono ?_; rintro e w5 ⟨A7, c7, rfl, m1, m2, m3, hb5⟩; have HM := Lib.hid (And.intro m1 (And.intro m2 m3)); have hx5 : Below W.heap.size W w5 := ext_trans hbd hb5; obtain ⟨⟨z0, zf⟩, z1⟩ := HSX.out w5 hx5))
            all_goals
                have hz6 := hx6.size
                have hz5 := hx5.size
                have h7 := (hexW.out.below hx6).put (v := q) (by rw [exMid_len]; exact hqt) (r := nu) u1 u2 (u3.more (fun b hb => ⟨⟨by have := hb.1; omega, hb.2⟩, by have := hb.1; omega⟩))
                rw [exMid_step hqt hnx.out] at h7
                have HXQ := Lib.hid h7
                have HRQ := Lib.hid ((heap_setCell_other w6 ⟨g, q, none⟩ pb (.slice A8 nu.length c8) (by show pb ≠ g; omega)).trans ((hx6.block pb hpW).trans hrW.out))
                have hBq := (hBW.trans (hx6.mono (by omega))).setCell (p := ⟨g, q, none⟩) (Nat.le_refl _) (.slice A8 nu.length c8)
                have hpq : pb < (w6.setCell ⟨g, q, none⟩ (.slice A8 nu.length c8)).heap.size := by simp [World.setCell]; omega
                clear h7 HEX HSX HSE HK hz6 hz5 u1 u2 u3 s0 sf s1
                generalize w6.setCell ⟨g, q, none⟩ (.slice A8 nu.length c8) = w7 at HXQ HRQ hBq hpq ⊢
                go_wp2
                go_roundw
                case rel => exact ⟨q + 1, hqt, by go_num, hBq, hpq, HRQ.out, HXQ.out⟩
                case measure => simp [intOf]; omega
          · have hqq : q = im.length := by omega
            subst hqq
            have hE2 := hexW.out
            rw [exMid_end] at hE2
            have HE2 := Lib.hid hE2
            clear hE2
            go_wp2
            go_roundw
            case rel => exact ⟨t + 1, htt, by go_num, hBW, HE2.out⟩
            case measure => simp [intOf]; omega
      · have htd : t = dd := by omega
        subst htd
        have hfin : Hid (exMid l i t im.length 0 = r) := by
          rw [Hid, ← HR.out, betS, if_pos hBE.out, hNA.out, hNB.out]
          refine Eq.trans ?_ HSEG.out
          unfold exMid
          refine List.map_congr_left fun v _ => ?_
          rw [if_neg (by omega)]
          show unionL ((l.take (i + t)).drop i) v = _
          rw [hdh.out]
        have hrl : Hid (r.length = im.length) := by rw [Hid, ← hfin.out, exMid_len]
        have hsl := hex.out.sl (Nat.le_refl _)
        rw [hfin.out] at hsl
        have HSL := Lib.hid hsl
        have hbw := hbw2.trans (hB.mono (by omega))
        clear hsl hex
        go_wp2
        go_ret2
        rw [← hrl.out]
        exact ⟨some ⟨g, 0, none⟩, r.length, rfl, Nat.le_refl _, by rw [hrl.out]; unfold maxLen; omega, HSL.out.more (fun b hb => ⟨by have := hb.1; omega, hb.2⟩), by rw [hn0]; exact hbw⟩
  · have hlh : k ≤ i := by omega
    have hiki : (k : Int) ≤ i := by omega
    have hseg : ((List.range im.length).map fun (v : Nat) => unionL ((l.take i).drop k) v) = (List.range im.length).map fun (v : Nat) => unionL ((l.take (max i k)).drop (min i k)) v := by rw [Nat.max_eq_left hlh, Nat.min_eq_right hlh]
    have HSEG := Lib.hid hseg
    clear hseg hik
    have hlk : k < l.length := by omega
    obtain ⟨b, off, D0, d0, rfl, _, _, _, _, _, _, _, _, _⟩ := (H2.out w3 (by rw [hn0]; exact hB0.trans (hb03.mono hs0'))).snp hlk
    have hcl : ¬ c2 = k := by omega
    have hLO : (0 : Int) ≤ k := by omega
    have hHC : (i : Int) ≤ c2 := by omega
    have hmin : min (i : Int) (k : Int) = k := by omega
    have hmax : max (i : Int) (k : Int) = i := by omega
    obtain ⟨dd, hdd⟩ : ∃ dd, i - k = dd := ⟨_, rfl⟩
    have hdh : Hid (k + dd = i) := by rw [Hid]; omega
    go_upto_region 9 with (fail)
    clear c0 c1 hcl hHC hmin hmax hdd
    go_loopw [47] (fun iv wr => ∃ t : Nat, t ≤ dd ∧ iv = .int .i64 t ∧ Below g w2 wr ∧ Hid (ExRow wr g g (exMid l k t im.length 0))) (fun iv _ => dd - (intOf iv).toNat)
    case atStart => exact ⟨0, by omega, rfl, hb3g, by
      have h := hx3.out
      rw [exMid_zero] at h
      rw [Hid, exMid_zero]; exact h⟩
    case round =>
      obtain ⟨wo, rfl⟩ : ∃ wo : World, wo = wr := ⟨_, rfl⟩
      obtain ⟨t, ht, rfl, hB, hex⟩ := hrel
      by_cases htt : t < dd
      · have hti : (t : Int) < dd := by omega
        have htn : (0 : Int) ≤ t := by omega
        have hjl : k + t < l.length := by have := hdh.out; omega
        have hbw := hbw2.trans (hB.mono (by omega))
        obtain ⟨b', off', D, dc, he, hbb, g0, g1, g2, hD, hd1, hd2, hi1, hi2⟩ := (H2.out wo (by rw [hn0]; exact hbw)).snp hjl
        simp only [Option.some.injEq, Addr.mk.injEq, and_true] at he
        obtain ⟨rfl, rfl⟩ := he
        have ha : off + (k + t) * 3 = off + k * 3 + t * 3 := by omega
        rw [ha] at g0 g1 g2
        have hst := Lib.hid (seg_step (lo := k) (j := k + t) (by omega) hjl)
        have hsvl := (HLM.out.sav l[k + t] (List.getElem_mem hjl)).1
        obtain ⟨x, hx⟩ : ∃ x, l[k + t] = x := ⟨_, rfl⟩
        rw [hx] at hst g0 g1 g2 hD hd1 hsvl
        obtain ⟨num, tm, sv⟩ := x
        simp only at g0 g1 g2 hD hd1 hsvl
        have HD : Hid (∀ V, Below g w2 V → SlAt encWr V (Bl V.heap.size) D sv) := fun V hV => by
          have h3 := hD.blk (w' := V) (fun b hb => by
            have h5 : b < w.heap.size := hb
            exact (hV.block b (by omega)).trans (hB.block b (by omega)).symm)
          exact h3.more (fun b hb => by have h5 : b < w.heap.size := hb; have := (hbw2.trans (hV.mono (by omega))).size; show b < V.heap.size; omega)
        obtain ⟨pb, hpb⟩ : ∃ pb, wo.heap.size = pb := ⟨_, rfl⟩
        go_upto_region 11 with (fail)
        obtain ⟨w4, hw4⟩ : ∃ w4, wo.alloc (.cells #[.int .i64 num, .int .i64 tm, .slice D sv.length dc] 76) = w4 := ⟨_, rfl⟩
        try rw [hw4]
        try rw [hpb]
        have hb4 : Below wo.heap.size wo w4 := by rw [← hw4]; exact ext_alloc (Below.refl _ _)
        have hr4 : w4.heap[pb]? = some (.cells #[.int .i64 num, .int .i64 tm, .slice D sv.length dc] 76 (0, 0)) := by rw [← hw4, ← hpb]; exact heap_alloc_new _ _
        have hgo := hex.out.lt
        have hgp : g < pb := by omega
        have hx4 := Lib.hid (hex.out.below hb4)
        have HR4 := Lib.hid hr4
        have hp4 : pb < w4.heap.size := (Array.getElem?_eq_some_iff.1 hr4).1
        have hB4 : Below g w2 w4 := hB.trans (hb4.mono (by omega))
        clear hw4 hr4 hb4 g0 g1 g2 hD hd1 hd2 hx ha hbb hi1 hi2 hex
        go_wp2_with fail
        go_loopw [53] (fun iv W => ∃ q : Nat, q ≤ im.length ∧ iv = .int .i64 q ∧ Below g w2 W ∧ pb < W.heap.size ∧ Hid (W.heap[pb]? = some (.cells #[.int .i64 num, .int .i64 tm, .slice D sv.length dc] 76 (0, 0))) ∧ Hid (ExRow W g g (exMid l k t im.length q))) (fun iv _ => im.length - (intOf iv).toNat)
        case atStart => exact ⟨0, by omega, rfl, hB4, hp4, HR4.out, hx4.out⟩
        case round =>
          obtain ⟨W, rfl⟩ : ∃ W : World, W = wr := ⟨_, rfl⟩
          obtain ⟨q, hq, rfl, hBW, hpW, hrW, hexW⟩ := hrel
          by_cases hqt : q < im.length
          · have hqi : (q : Int) < im.length := by omega
            have hqn : (0 : Int) ≤ q := by omega
            obtain ⟨A6, c6, k1, k2, k3, k4⟩ := hexW.out.at_ (v := q) (by rw [exMid_len]; exact hqt)
            have hat : (exMid l k t im.length q)[q]'(by rw [exMid_len]; exact hqt) = unionL ((l.take (k + t)).drop k) q := by rw [exMid_at hqt, if_neg (by omega)]; rfl
            rw [hat] at k1 k2 k4
            obtain ⟨es, hes⟩ : ∃ es, Hid (unionL ((l.take (k + t)).drop k) q = es) := ⟨_, rfl⟩
            have hesl : Hid (es.length ≤ 4096) := by rw [← hes.out]; exact unionL_len _ _
            rw [hes.out] at k1 k2 k4
            obtain ⟨ex, hexs⟩ : ∃ ex, Hid (runsL (secsOf sv q) = ex) := ⟨_, rfl⟩
            have hexl : Hid (ex.length ≤ 4096) := by rw [← hexs.out]; exact secs_len sv q
            obtain ⟨nu, hnu⟩ : ∃ nu, Hid (opL or es ex = nu) := ⟨_, rfl⟩
            have hnx : Hid (nu = unionL ((l.take (k + t + 1)).drop k) q) := by rw [Hid, hst.out, unionL_snoc, hes.out]; show nu = opL or es (runsL (secsOf sv q)); rw [hexs.out, hnu.out]
            obtain ⟨_, _, p2, _⟩ := blk3 hrW.out
            have hfr := hexW.out.frozen q
            have hgW := hexW.out.lt
            have hbd : Below W.heap.size W W.drew := (Below.refl _ _).drew
            have HSX : Hid (∀ V, Below W.heap.size W V → (V.cell? ⟨g, q, none⟩ = some (.slice A6 es.length c6) ∧ V.frozen? ⟨g, q, none⟩ = false) ∧ V.cell? ⟨pb, 2, none⟩ = some (.slice D sv.length dc)) := fun V hb => ⟨⟨(World.cell?_of_block (a := ⟨g, q, none⟩) (hb.block g hgW)).trans k1, (World.frozen?_of_block (a := ⟨g, q, none⟩) (hb.block g hgW)).trans hfr⟩, (World.cell?_of_block (a := ⟨pb, 2, none⟩) (hb.block pb hpW)).trans p2⟩
            have HSE : Hid (∀ V, Below W.heap.size W V → SlAt encExt V (Bl V.heap.size) A6 es) := fun V hb => (k4.blk (fun b hb' => hb.block b hb'.1.2)).more (fun b hb' => by have := hb'.1.2; have := hb.size; show b < V.heap.size; omega)
            have HEX := Lib.hid (extents_any D dc sv q W.drew (HD.out W.drew hBW.drew) (by omega) ⟨by omega, by omega⟩)
            rw [hexs.out] at HEX
            have HK := Lib.hid (And.intro k2 k3)
            obtain ⟨⟨s0, sf⟩, s1⟩ := HSX.out W.drew hbd
            clear k1 k2 k3 k4 p2 hfr hat
            go_upto_region 14 with (fail)
            go_region_law (first | (go_simp; go_at_call 50; refine (union_any A6 A7 c6 c7 es.length ex.length es ex nu rfl rfl hnu.out w5 (HSE.out w5 hx5) (HM.out.2.2.more (fun _ h => h.2)) (by have := hesl.out; omega) (by have := hexl.out; omega) HK.out ⟨HM.out.1, HM.out.2.1⟩).mono ?_; rintro e w6 ⟨A8, c8, rfl, u1, u2, u3, hb6⟩; have hx6 : Below W.heap.size W w6 := ext_trans hx5 hb6; obtain ⟨⟨y0, yf⟩, y1⟩ := HSX.out w6 hx6) | (go_simp; go_at_call 51; refine HEX.out.mono ?_; rintro e w5 ⟨A7, c7, rfl, m1, m2, m3, hb5⟩; have HM := Lib.hid (And.intro m1 (And.intro m2 m3)); have hx5 : Below W.heap.size W w5 := ext_trans hbd hb5; obtain ⟨⟨z0, zf⟩, z1⟩ := HSX.out w5 hx5))
            all_goals
                have hz6 := hx6.size
                have hz5 := hx5.size
                have h7 := (hexW.out.below hx6).put (v := q) (by rw [exMid_len]; exact hqt) (r := nu) u1 u2 (u3.more (fun b hb => ⟨⟨by have := hb.1; omega, hb.2⟩, by have := hb.1; omega⟩))
                rw [exMid_step hqt hnx.out] at h7
                have HXQ := Lib.hid h7
                have HRQ := Lib.hid ((heap_setCell_other w6 ⟨g, q, none⟩ pb (.slice A8 nu.length c8) (by show pb ≠ g; omega)).trans ((hx6.block pb hpW).trans hrW.out))
                have hBq := (hBW.trans (hx6.mono (by omega))).setCell (p := ⟨g, q, none⟩) (Nat.le_refl _) (.slice A8 nu.length c8)
                have hpq : pb < (w6.setCell ⟨g, q, none⟩ (.slice A8 nu.length c8)).heap.size := by simp [World.setCell]; omega
                clear h7 HEX HSX HSE HK hz6 hz5 u1 u2 u3 s0 sf s1
                generalize w6.setCell ⟨g, q, none⟩ (.slice A8 nu.length c8) = w7 at HXQ HRQ hBq hpq ⊢
                go_wp2
                go_roundw
                case rel => exact ⟨q + 1, hqt, by go_num, hBq, hpq, HRQ.out, HXQ.out⟩
                case measure => simp [intOf]; omega
          · have hqq : q = im.length := by omega
            subst hqq
            have hE2 := hexW.out
            rw [exMid_end] at hE2
            have HE2 := Lib.hid hE2
            clear hE2
            go_wp2
            go_roundw
            case rel => exact ⟨t + 1, htt, by go_num, hBW, HE2.out⟩
            case measure => simp [intOf]; omega
      · have htd : t = dd := by omega
        subst htd
        have hfin : Hid (exMid l k t im.length 0 = r) := by
          rw [Hid, ← HR.out, betS, if_pos hBE.out, hNA.out, hNB.out]
          refine Eq.trans ?_ HSEG.out
          unfold exMid
          refine List.map_congr_left fun v _ => ?_
          rw [if_neg (by omega)]
          show unionL ((l.take (k + t)).drop k) v = _
          rw [hdh.out]
        have hrl : Hid (r.length = im.length) := by rw [Hid, ← hfin.out, exMid_len]
        have hsl := hex.out.sl (Nat.le_refl _)
        rw [hfin.out] at hsl
        have HSL := Lib.hid hsl
        have hbw := hbw2.trans (hB.mono (by omega))
        clear hsl hex
        go_wp2
        go_ret2
        rw [← hrl.out]
        exact ⟨some ⟨g, 0, none⟩, r.length, rfl, Nat.le_refl _, by rw [hrl.out]; unfold maxLen; omega, HSL.out.more (fun b hb => ⟨by have := hb.1; omega, hb.2⟩), by rw [hn0]; exact hbw⟩
end Go.Proofs.YtgmeghandjkkcaaGreat
