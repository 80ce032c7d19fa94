/-
  The law of a run: where the images of two items differ, Between contains the sector, and it contains only sectors that were written between them: the walk.
-/
import Derived.Test.YtgmeghandjkkcaaGreatDq
import Derived.Test.YtgmeghandjkkcaaGreatDw
set_option linter.unusedVariables false
set_option linter.unusedSimpArgs false
set_option linter.unusedSectionVars false
set_option linter.unnecessarySimpa false
namespace Go.Proofs.YtgmeghandjkkcaaGreat
open Go.RowKit Go.Shelf
attribute [local go_sem] Oper.semAt_some

theorem RInv.klens {k : Nat} {im : Img} {l : List Snp} {all : List Kpt} (h : RInv k im l all) {j : Nat} (hj : j < all.length) : Proofs.YtgmeghandjkkcaaGreat.lens (all[j].2.1) = [5, 3] := by
  have hjl : j < l.length := by rw [h.len2]; exact hj
  obtain ⟨_, _, _, _, h5⟩ := h.at_ hj hjl
  rw [← h5, atL_lens' (fun x hx => h.fits x (List.mem_of_mem_drop hx)), h.lens]
theorem lens53 {ia : Img} (h : lens ia = [5, 3]) : ∃ r0 r1, ia = [r0, r1] ∧ r0.length = 5 ∧ r1.length = 3 := by
  match ia, h with
  | [], h => simp [lens] at h
  | [_], h => simp [lens] at h
  | _ :: _ :: _ :: _, h => simp [lens] at h
  | [r0, r1], h =>
    simp only [lens, List.map_cons, List.map_nil, List.cons.injEq, and_true] at h
    unfold lenI at h
    exact ⟨r0, r1, rfl, by omega, by omega⟩
set_option maxHeartbeats 4000000 in
set_option maxRecDepth 100000 in
theorem differs36_any (A0 : Option Addr) (c0 n : Nat) (xs : List Stp) (qa qb : Int) (hqa : 0 ≤ qa ∧ qa < 256) (hqb : 0 ≤ qb ∧ qb < 256) (w : World) (hn : xs.length = n) (h1 : SlAt encStp w (Bl w.heap.size) A0 xs) (hs : n ≤ 9223372036854775807) :
    Calls Tryz.prog 6 #[.slice A0 n c0, .int .u8 qa, .int .u8 qb] w (LawRet w) := by
  subst hn
  have H1 := Lib.hid h1
  clear h1
  obtain ⟨hqa0, hqa1⟩ := hqa
  obtain ⟨hqb0, hqb1⟩ := hqb
  have hB0 : Below w.heap.size w w := Below.refl _ _
  go_enter Tryz.func6, Tryz.ntmps6
  by_cases hle : xs.length ≤ 25
  case neg =>
    have hgt : (25 : Int) < xs.length := by omega
    go_upto_region 2 with (fail)
    go_wp2_with fail
    refine (awake36_any _).mono ?_
    rintro e wz ⟨rfl, hbz⟩
    go_wp2
    go_ret
    exact ⟨rfl, ext_trans hB0 (ext_trans hB0 hbz)⟩
  have hng : ¬ (25 : Int) < xs.length := by omega
  have hok : ∀ x ∈ xs, OkStp x := fun x hx => by
    obtain ⟨k, hk, rfl⟩ := List.mem_iff_getElem.1 hx
    obtain ⟨_, _, _, _, _, _, _, _, _, h⟩ := H1.out.stp hk
    exact h
  obtain ⟨im, l, all, ht⟩ : ∃ im l all, Hid (runT xs xs.length = (im, l, all)) := ⟨_, _, _, Lib.hid rfl⟩
  obtain ⟨m, hm⟩ : ∃ m, all.length = m := ⟨_, rfl⟩
  have hinv := runT_inv hok xs.length (Nat.le_refl _) (by omega)
  have hcap := runT_cap (xs := xs) xs.length
  rw [ht.out] at hinv hcap
  have hlm : l.length = m := by rw [← hm]; exact hinv.len2
  have hm25 : m ≤ 25 := by rw [← hm]; exact Nat.le_trans hinv.len hle
  have hims := (hinv.lim (by omega) hcap).ims
  have HRUN : Hid (Calls Tryz.prog 25 #[.slice A0 xs.length c0] w fun e w' => ∃ B vc D dc A ac Bi vi, e = .returned (.tuple #[.agg #[.slice B im.length vc, .slice D m dc], .slice A m ac, .slice Bi im.length vi, .bool true]) ∧ (im.length ≤ vc ∧ vc ≤ maxLen ∧ m ≤ dc ∧ dc ≤ maxLen ∧ m ≤ ac ∧ ac ≤ maxLen ∧ im.length ≤ vi ∧ vi ≤ maxLen) ∧ SlAt (encSl encSec) w' (Nw w.heap.size w'.heap.size) B im ∧ SlAt encSnp w' (Nw w.heap.size w'.heap.size) D l ∧ SlAt encK w' (Nw w.heap.size w'.heap.size) A all ∧ SlAt (encSl encSec) w' (Nw w.heap.size w'.heap.size) Bi im ∧ Below w.heap.size w w') := by
    have h := run36_any A0 c0 xs.length xs w rfl H1.out hle im l all ht.out
    rw [hlm, hm] at h
    exact h
  have HINV := Lib.hid hinv
  have HLM := Lib.hid (hinv.lim (by omega) hcap)
  have HL := Lib.hid (And.intro hlm hm)
  have HOK := Lib.hid hok
  clear hinv hcap hlm hm hok
  go_wp2_with fail
  refine HRUN.out.mono ?_
  rintro e w1 ⟨B, vc, D, dc, A, ac, Bi, vi, rfl, ⟨hc1, hc2, hc3, hc4, hc5, hc6, hc7, hc8⟩, k1, k2, k3, k4, hb1⟩
  have K1 := Lib.hid (k1.more (S' := Bl w1.heap.size) (fun g hg => hg.2))
  have K2 := Lib.hid (k2.more (S' := Bl w1.heap.size) (fun g hg => hg.2))
  have K3 := Lib.hid (k3.more (S' := Bl w1.heap.size) (fun g hg => hg.2))
  have K4 := Lib.hid (k4.more (S' := Bl w1.heap.size) (fun g hg => hg.2))
  clear k1 k2 k3 k4 HRUN
  go_upto_region 4 with (fail)
  obtain ⟨xb, hxb⟩ : ∃ xb, w1.heap.size = xb := ⟨_, rfl⟩
  obtain ⟨w2, hw2⟩ : ∃ w2, w1.alloc (.cells #[.slice B im.length vc, .slice D m dc] 26) = w2 := ⟨_, rfl⟩
  rw [hw2, hxb]
  have hb12 : Below w1.heap.size w1 w2 := by rw [← hw2]; exact ext_alloc (Below.refl _ _)
  have hr2 : w2.heap[xb]? = some (.cells #[.slice B im.length vc, .slice D m dc] 26 (0, 0)) := by rw [← hw2, ← hxb]; exact heap_alloc_new _ _
  have hb2 : Below w.heap.size w w2 := ext_trans hb1 hb12
  have HC : Hid (∀ W, Below w2.heap.size w2 W → W.cell? ⟨xb, 0, none⟩ = some (.slice B im.length vc) ∧ W.cell? ⟨xb, 1, none⟩ = some (.slice D m dc)) := fun W hb => by
    obtain ⟨a, b, _⟩ := blk2 ((hb.block xb (Array.getElem?_eq_some_iff.1 hr2).1).trans hr2)
    exact ⟨a, b⟩
  have HB12 := Lib.hid hb12
  clear hw2 hr2 hb12 hb1 hxb
  have hwi := Lib.hid (runT_wi HOK.out xs.length (Nat.le_refl _) (by omega))
  rw [ht.out] at hwi
  by_cases hm0 : 0 < m
  case neg =>
    have hmz : (m : Int) = 0 := by omega
    have hmz2 : m = 0 := by omega
    subst hmz2
    go_upto_region 7 with (fail)
    go_wp2_with fail
    refine (awake36_any _).mono ?_
    rintro e wz ⟨rfl, hbz⟩
    go_wp2
    go_ret
    exact ⟨rfl, ext_trans hB0 (ext_trans hb2 hbz)⟩
  have hmz : ¬ (m : Int) = 0 := by omega
  have hmb : ((m : Int) == 0) = false := by simp; omega
  obtain ⟨ja, hja⟩ : ∃ j : Nat, qa % (m : Int) = j := ⟨(qa % (m : Int)).toNat, by have := Int.emod_nonneg qa hmz; omega⟩
  have hjam : ja < m := by have := Int.emod_lt_of_pos qa (show (0 : Int) < m by omega); omega
  have hjat : qa.tmod (m : Int) = (ja : Int) := by rw [Int.tmod_eq_emod_of_nonneg hqa0]; exact hja
  obtain ⟨jb, hjb⟩ : ∃ j : Nat, qb % (m : Int) = j := ⟨(qb % (m : Int)).toNat, by have := Int.emod_nonneg qb hmz; omega⟩
  have hjbm : jb < m := by have := Int.emod_lt_of_pos qb (show (0 : Int) < m by omega); omega
  have hjbt : qb.tmod (m : Int) = (jb : Int) := by rw [Int.tmod_eq_emod_of_nonneg hqb0]; exact hjb
  have hjaa : ja < all.length := by rw [HL.out.2]; exact hjam
  have hjba : jb < all.length := by rw [HL.out.2]; exact hjbm
  have hjai : (ja : Int) < m := by omega
  have hja0 : (0 : Int) ≤ ja := by omega
  have hjbi : (jb : Int) < m := by omega
  have hjb0 : (0 : Int) ≤ jb := by omega
  obtain ⟨ga, offa, Dk, ck, rfl, hga, ea, eb, ec, ed, ee, ef, eg, eh⟩ := (K3.out.fwd HB12.out).kpt hjaa
  obtain ⟨ga2, offa2, Dl, cl, he2, _, fa, fb, fc, fd, fe, ff, _, _⟩ := (K3.out.fwd HB12.out).kpt hjba
  injection he2 with he2
  injection he2 with he3 he4
  subst he3 he4
  obtain ⟨hfa0, hfa1⟩ := HINV.out.image hjaa
  obtain ⟨hfb0, hfb1⟩ := HINV.out.image hjba
  have hla := HINV.out.klens hjaa
  have hlb := HINV.out.klens hjba
  have hsa := HINV.out.st _ (List.getElem_mem hjaa)
  have hsb := HINV.out.st _ (List.getElem_mem hjba)
  obtain ⟨sa, hsa2⟩ : ∃ s : Nat, (all[ja]'hjaa).2.2 = s := ⟨((all[ja]'hjaa).2.2).toNat, by omega⟩
  obtain ⟨sb, hsb2⟩ : ∃ s : Nat, (all[jb]'hjba).2.2 = s := ⟨((all[jb]'hjba).2.2).toNat, by omega⟩
  have hsal : sa < xs.length := by omega
  have hsbl : sb < xs.length := by omega
  obtain ⟨numa, hnuma⟩ : ∃ q, (all[ja]'hjaa).1 = q := ⟨_, rfl⟩
  obtain ⟨numb, hnumb⟩ : ∃ q, (all[jb]'hjba).1 = q := ⟨_, rfl⟩
  have hfna := (HINV.out.at_ hjaa (by rw [HL.out.1]; exact hjam)).2.2.2.1
  have hfnb := (HINV.out.at_ hjba (by rw [HL.out.1]; exact hjbm)).2.2.2.1
  rw [hnuma] at hfna
  rw [hnumb] at hfnb
  have HFN := Lib.hid (And.intro hfna hfnb)
  clear hfna hfnb
  obtain ⟨ia, hia⟩ : ∃ q, (all[ja]'hjaa).2.1 = q := ⟨_, rfl⟩
  obtain ⟨ib, hib⟩ : ∃ q, (all[jb]'hjba).2.1 = q := ⟨_, rfl⟩
  have HA := Lib.hid (And.intro hia hsa2)
  have HBB := Lib.hid (And.intro hib hsb2)
  rw [hnuma] at ea hfa0
  rw [hnumb] at fa hfb0
  rw [hia] at eb ed ee hla
  rw [hib] at fb fd fe hlb
  rw [hsa2] at ec
  rw [hsb2] at fc
  have HF0 := Lib.hid (And.intro hfa0 hfb0)
  have HED := Lib.hid ed
  have HFD := Lib.hid fd
  have HLA := Lib.hid hla
  have HLB := Lib.hid hlb
  clear hfa0 hfa1 hfb0 hfb1 hsa hsb hsa2 hsb2 hnuma hnumb hia hib ed fd hla hlb eg eh hja hjb
  go_upto_region 8 with (fail)
  obtain ⟨p0, p1⟩ := HC.out w2 (Below.refl _ _)
  go_cut [11, 12] (fun e f wx => ∃ ya yb, e = .pointer (some ⟨ya, 0, none⟩) ∧ f = .pointer (some ⟨yb, 0, none⟩) ∧ Below w2.heap.size w2 wx ∧ wx.heap[ya]? = some (.cells #[.int .i64 numa, .slice Dk ia.length ck, .int .i64 sa] 61 (0, 0)) ∧ wx.heap[yb]? = some (.cells #[.int .i64 numb, .slice Dl ib.length cl, .int .i64 sb] 61 (0, 0)))
  case first =>
    have hmn : ¬ m = 0 := by omega
    have hwa : IntKind.i64.wrap qa = qa := IntWalk.i64_in _ (by omega)
    have hwb : IntKind.i64.wrap qb = qb := IntWalk.i64_in _ (by omega)
    have hga2 : ga < w2.heap.size := hga
    have nn1 := World.new_ne w2 ⟨ga, offa + ja * 3, none⟩ ea
    have nn2 := World.new_ne w2 ⟨ga, offa + ja * 3 + 1, none⟩ eb
    have nn3 := World.new_ne w2 ⟨ga, offa + ja * 3 + 2, none⟩ ec
    clear H1 HINV HLM HL HOK K1 K2 K3 K4 HC HB12 hwi HA HBB HF0 HED HFD HLA HLB ht
    go_region_held3 (fun W => (W.cell? ⟨ga, offa + ja * 3, none⟩ = some (.int .i64 numa) ∧ W.cell? ⟨ga, offa + ja * 3 + 1, none⟩ = some (.slice Dk ia.length ck) ∧ W.cell? ⟨ga, offa + ja * 3 + 2, none⟩ = some (.int .i64 sa)) ∧ W.cell? ⟨ga, offa + jb * 3, none⟩ = some (.int .i64 numb) ∧ W.cell? ⟨ga, offa + jb * 3 + 1, none⟩ = some (.slice Dl ib.length cl) ∧ W.cell? ⟨ga, offa + jb * 3 + 2, none⟩ = some (.int .i64 sb)) (first | with_reducible exact ⟨⟨ea, eb, ec⟩, fa, fb, fc⟩ | go_keep) (first | fail)
    all_goals
      go_wp2
      go_meet
      first
      | exact ⟨_, _, rfl, rfl, (ext_alloc (ext_alloc (Below.refl _ _))).drew, (Below.heap_alloc _ _ _ (by simp)).trans (heap_alloc_new _ _), heap_new2 _ _ _⟩
      | exact ⟨_, _, rfl, rfl, (ext_alloc (ext_alloc (Below.refl _ _))).drew, heap_new2 _ _ _, (Below.heap_alloc _ _ _ (by simp)).trans (heap_alloc_new _ _)⟩
  case rest =>
  obtain ⟨ya, yb, rfl, rfl, hx3, hra, hrb⟩ := hcut
  obtain ⟨w3, rfl⟩ : ∃ w3 : World, w3 = wc := ⟨_, rfl⟩
  have hyal : ya < w3.heap.size := (Array.getElem?_eq_some_iff.1 hra).1
  have hybl : yb < w3.heap.size := (Array.getElem?_eq_some_iff.1 hrb).1
  have HY : Hid (∀ W, Below w3.heap.size w3 W → (W.cell? ⟨ya, 0, none⟩ = some (.int .i64 numa) ∧ W.cell? ⟨ya, 1, none⟩ = some (.slice Dk ia.length ck) ∧ W.cell? ⟨ya, 2, none⟩ = some (.int .i64 sa)) ∧ W.cell? ⟨yb, 0, none⟩ = some (.int .i64 numb) ∧ W.cell? ⟨yb, 1, none⟩ = some (.slice Dl ib.length cl) ∧ W.cell? ⟨yb, 2, none⟩ = some (.int .i64 sb)) := fun W hb => by
    obtain ⟨a, b, c, _⟩ := blk3 ((hb.block ya hyal).trans hra)
    obtain ⟨d, e, f, _⟩ := blk3 ((hb.block yb hybl).trans hrb)
    exact ⟨⟨a, b, c⟩, d, e, f⟩
  obtain ⟨u0, hu0⟩ : ∃ q, unionL (segL l ja jb) 0 = q := ⟨_, rfl⟩
  obtain ⟨u1, hu1⟩ : ∃ q, unionL (segL l ja jb) 1 = q := ⟨_, rfl⟩
  have hbe : betE (im, l) numa numb = 0 := by unfold betE; rw [if_neg (by rw [HF0.out.1]; simp)]; exact HF0.out.2
  have hbet : betS (im, l) numa numb = [u0, u1] := by
    obtain ⟨r0, r1, he, _, _⟩ := lens53 HINV.out.lens
    have hil : im.length = 2 := by rw [he]; rfl
    unfold betS
    rw [if_pos hbe, HFN.out.1, HFN.out.2, ← hu0, ← hu1]
    simp only [hil]
    rfl
  have HU := Lib.hid (And.intro hu0 hu1)
  have hul0 : u0.length ≤ 4096 := by rw [← hu0]; exact unionL_len _ _
  have hul1 : u1.length ≤ 4096 := by rw [← hu1]; exact unionL_len _ _
  have KB : Hid (Calls Tryz.prog 21 #[.agg #[.slice B im.length vc, .slice D m dc], .int .i64 numa, .int .i64 numb] w3 fun e w' => ∃ Bm vm, e = .returned (.tuple #[.slice Bm 2 vm, .int .i64 0]) ∧ 2 ≤ vm ∧ vm ≤ maxLen ∧ SlAt (encSl encExt) w' (Nw w3.heap.size w'.heap.size) Bm [u0, u1] ∧ Below w3.heap.size w3 w') :=
    snBetween_any B D vc dc im.length m im l numa numb w3 rfl HL.out.1 ((K1.out.fwd HB12.out).fwd hx3) ((K2.out.fwd HB12.out).fwd hx3) HLM.out hc3 [u0, u1] hbet 0 hbe
  clear hbe hbet hu0 hu1 p0 p1
  obtain ⟨p0, p1⟩ := HC.out w3 hx3
  obtain ⟨⟨e0, e1, e2⟩, f0, f1, f2⟩ := HY.out w3 (Below.refl _ _)
  go_wp2_with fail
  refine KB.out.mono ?_
  rintro e w4 ⟨Bm, vm, rfl, hm1, hm2, z3, hb4⟩
  have HM := Lib.hid (z3.more (S' := Bl w4.heap.size) (fun g hg => hg.2))
  have h24 : Below w2.heap.size w2 w4 := ext_trans hx3 hb4
  have hb04 : Below w.heap.size w w4 := ext_trans hb2 h24
  clear p0 p1 e0 e1 e2 f0 f1 f2 z3 KB hra hrb
  obtain ⟨a0, a1, rfl, hal0, hal1⟩ := lens53 HLA.out
  obtain ⟨b0, b1, rfl, hbl0, hbl1⟩ := lens53 HLB.out
  go_wp2_with fail
  go_loopw [15] (fun v wr => ∃ V : Nat, V ≤ 2 ∧ v = .int .i64 V ∧ Below w4.heap.size w4 wr) (fun v _ => 2 - (intOf v).toNat)
  case atStart => exact ⟨0, by omega, rfl, Below.refl _ _⟩
  case round =>
    obtain ⟨wo, rfl⟩ : ∃ wo : World, wo = wr := ⟨_, rfl⟩
    obtain ⟨V, hV, rfl, hB⟩ := hrel
    by_cases hV2 : V < 2
    · obtain rfl | rfl : V = 0 ∨ V = 1 := by omega
      · as_aux_lemma =>
          have hBV := hB
          rw [show ((0 : Nat) : Int) = 0 from rfl]
          go_wp2_with fail
          go_loopw [16] (fun i wr => ∃ I : Nat, I ≤ 5 ∧ i = .int .i64 I ∧ Below w4.heap.size w4 wr) (fun i _ => 5 - (intOf i).toNat)
          case atStart => exact ⟨0, by omega, rfl, hBV⟩
          case round =>
            obtain ⟨wi, rfl⟩ : ∃ wi : World, wi = wr := ⟨_, rfl⟩
            obtain ⟨I, hI, rfl, hBI⟩ := hrel
            go_wp2_with fail
            refine (sizes36_any wi).mono ?_
            rintro e w5 ⟨g, rfl, hg1, hg2, hb5⟩
            obtain ⟨gg0, gg1, _⟩ := blk2 hg2
            have hB5 : Below w4.heap.size w4 w5 := ext_trans hBI hb5
            clear hg2
            by_cases hI2 : I < 5
            · have hIi : (I : Int) < 5 := by omega
              have hI0 : (0 : Int) ≤ I := by omega
              have h25 : Below w2.heap.size w2 w5 := ext_trans h24 hB5
              have h35 : Below w3.heap.size w3 w5 := ext_trans hb4 hB5
              obtain ⟨gA, oA, DA, cA, rfl, hgA, cA1, sA, _, _⟩ := (HED.out.fwd h25).sl (k := 0) (by simp)
              obtain ⟨gB, oB, DB, cB, rfl, hgB, cB1, sB, _, _⟩ := (HFD.out.fwd h25).sl (k := 0) (by simp)
              obtain ⟨gM, oM, DM, cM, rfl, hgM, cM1, sM, _, _⟩ := (HM.out.fwd hB5).sl (k := 0) (by simp)
              have hIA : I < a0.length := by omega
              have hIB : I < b0.length := by omega
              obtain ⟨gC, oC, x0, x1, x2, x3, x4, x5, x6, x7, rfl, hgC, hxe, _, xa0, xa1, xa2, xa3, xa4, xa5, xa6, xa7⟩ := sA.sec hIA
              obtain ⟨gD, oD, y0, y1, y2, y3, y4, y5, y6, y7, rfl, hgD, hye, _, yc0, yc1, yc2, yc3, yc4, yc5, yc6, yc7⟩ := sB.sec hIB
              have cA2 : w5.cell? ⟨gA, oA, none⟩ = some (.slice (some ⟨gC, oC, none⟩) a0.length cA) := cA1
              have cB2 : w5.cell? ⟨gB, oB, none⟩ = some (.slice (some ⟨gD, oD, none⟩) b0.length cB) := cB1
              have cM2 : w5.cell? ⟨gM, oM, none⟩ = some (.slice DM u0.length cM) := cM1
              clear cA1 cB1 cM1
              obtain ⟨⟨e0, e1, e2⟩, f0, f1, f2⟩ := HY.out w5 h35
              have hIal : (I : Int) < ((a0.length : Nat) : Int) := by omega
              have hIbl : (I : Int) < ((b0.length : Nat) : Int) := by omega
              obtain ⟨qc, hqc⟩ : ∃ z, Hid (u0.any (inExt I) = z) := ⟨_, Lib.hid rfl⟩
              have hq := fun W => run_eq_sec W x0 x1 x2 x3 x4 x5 x6 x7 y0 y1 y2 y3 y4 y5 y6 y7
              generalize hqq : ([x0, x1, x2, x3, x4, x5, x6, x7] == [y0, y1, y2, y3, y4, y5, y6, y7]) = q at hq
              have HKC := Lib.hid (fun W (hb : Below w5.heap.size w5 W) => contains_any DM cM u0 I W (((show SlAt encExt w5 (Bl w5.heap.size) DM u0 from sM).fwd hb)) (by omega) qc hqc.out)
              go_upto_region 18 with (fail)
              go_cut [106] (fun e wx => e = .bool false ∧ Below w5.heap.size w5 wx)
              case first =>
                cases q with
                | true =>
                  go_quiet (fail)
                  all_goals
                    go_wp2
                    go_meet
                    exact ⟨rfl, bDrew (Below.refl _ _) _⟩
                | false =>
                  have hqt : qc = true := by
                    cases qc with
                    | true => rfl
                    | false =>
                      have h1 := hqc.out
                      rw [← HU.out.1] at h1
                      have h2 := differs_any HINV.out hjaa hjba (v := 0) (i := I) (by omega) h1
                      rw [HA.out.1, HBB.out.1] at h2
                      have h3 : a0[I] = b0[I] := by
                        unfold secAt at h2
                        simpa [List.getD_eq_getElem?_getD, List.getElem?_eq_getElem hIA, List.getElem?_eq_getElem hIB] using h2
                      have hxe2 : a0[I]'hIA = [x0, x1, x2, x3, x4, x5, x6, x7] := hxe
                      have hye2 : b0[I]'hIB = [y0, y1, y2, y3, y4, y5, y6, y7] := hye
                      rw [hxe2, hye2] at h3
                      rw [h3] at hqq
                      simp at hqq
                  subst hqt
                  have hbd : Below w5.heap.size w5 w5.drew := (Below.refl _ _).drew
                  have hya5 : ya < w5.heap.size := Nat.lt_of_lt_of_le hyal h35.size
                  have hyb5 : yb < w5.heap.size := Nat.lt_of_lt_of_le hybl h35.size
                  have HSS : Hid (∀ W, Below w5.heap.size w5 W → ((W.cell? ⟨ya, 1, none⟩ = some (.slice (some ⟨gA, oA, none⟩) 2 ck) ∧ W.cell? ⟨yb, 1, none⟩ = some (.slice (some ⟨gB, oB, none⟩) 2 cl)) ∧ (W.cell? ⟨gA, oA, none⟩ = some (.slice (some ⟨gC, oC, none⟩) a0.length cA) ∧ W.cell? ⟨gB, oB, none⟩ = some (.slice (some ⟨gD, oD, none⟩) b0.length cB) ∧ W.cell? ⟨gM, oM, none⟩ = some (.slice DM u0.length cM)) ∧ (W.cell? ⟨gC, oC + I * 8, none⟩ = some (.int .u8 x0) ∧ W.cell? ⟨gC, oC + I * 8 + 1, none⟩ = some (.int .u8 x1) ∧ W.cell? ⟨gC, oC + I * 8 + 2, none⟩ = some (.int .u8 x2) ∧ W.cell? ⟨gC, oC + I * 8 + 3, none⟩ = some (.int .u8 x3) ∧ W.cell? ⟨gC, oC + I * 8 + 4, none⟩ = some (.int .u8 x4) ∧ W.cell? ⟨gC, oC + I * 8 + 5, none⟩ = some (.int .u8 x5) ∧ W.cell? ⟨gC, oC + I * 8 + 6, none⟩ = some (.int .u8 x6) ∧ W.cell? ⟨gC, oC + I * 8 + 7, none⟩ = some (.int .u8 x7)) ∧ (W.cell? ⟨gD, oD + I * 8, none⟩ = some (.int .u8 y0) ∧ W.cell? ⟨gD, oD + I * 8 + 1, none⟩ = some (.int .u8 y1) ∧ W.cell? ⟨gD, oD + I * 8 + 2, none⟩ = some (.int .u8 y2) ∧ W.cell? ⟨gD, oD + I * 8 + 3, none⟩ = some (.int .u8 y3) ∧ W.cell? ⟨gD, oD + I * 8 + 4, none⟩ = some (.int .u8 y4) ∧ W.cell? ⟨gD, oD + I * 8 + 5, none⟩ = some (.int .u8 y5) ∧ W.cell? ⟨gD, oD + I * 8 + 6, none⟩ = some (.int .u8 y6) ∧ W.cell? ⟨gD, oD + I * 8 + 7, none⟩ = some (.int .u8 y7)))) := fun W hb => ⟨⟨(World.cell?_of_block (a := ⟨ya, 1, none⟩) (hb.block ya hya5)).trans e1, (World.cell?_of_block (a := ⟨yb, 1, none⟩) (hb.block yb hyb5)).trans f1⟩, ⟨(World.cell?_of_block (a := ⟨gA, oA, none⟩) (hb.block gA hgA)).trans cA2, (World.cell?_of_block (a := ⟨gB, oB, none⟩) (hb.block gB hgB)).trans cB2, (World.cell?_of_block (a := ⟨gM, oM, none⟩) (hb.block gM hgM)).trans cM2⟩, ⟨(World.cell?_of_block (a := ⟨gC, oC + I * 8, none⟩) (hb.block gC hgC)).trans xa0, (World.cell?_of_block (a := ⟨gC, oC + I * 8 + 1, none⟩) (hb.block gC hgC)).trans xa1, (World.cell?_of_block (a := ⟨gC, oC + I * 8 + 2, none⟩) (hb.block gC hgC)).trans xa2, (World.cell?_of_block (a := ⟨gC, oC + I * 8 + 3, none⟩) (hb.block gC hgC)).trans xa3, (World.cell?_of_block (a := ⟨gC, oC + I * 8 + 4, none⟩) (hb.block gC hgC)).trans xa4, (World.cell?_of_block (a := ⟨gC, oC + I * 8 + 5, none⟩) (hb.block gC hgC)).trans xa5, (World.cell?_of_block (a := ⟨gC, oC + I * 8 + 6, none⟩) (hb.block gC hgC)).trans xa6, (World.cell?_of_block (a := ⟨gC, oC + I * 8 + 7, none⟩) (hb.block gC hgC)).trans xa7⟩, ⟨(World.cell?_of_block (a := ⟨gD, oD + I * 8, none⟩) (hb.block gD hgD)).trans yc0, (World.cell?_of_block (a := ⟨gD, oD + I * 8 + 1, none⟩) (hb.block gD hgD)).trans yc1, (World.cell?_of_block (a := ⟨gD, oD + I * 8 + 2, none⟩) (hb.block gD hgD)).trans yc2, (World.cell?_of_block (a := ⟨gD, oD + I * 8 + 3, none⟩) (hb.block gD hgD)).trans yc3, (World.cell?_of_block (a := ⟨gD, oD + I * 8 + 4, none⟩) (hb.block gD hgD)).trans yc4, (World.cell?_of_block (a := ⟨gD, oD + I * 8 + 5, none⟩) (hb.block gD hgD)).trans yc5, (World.cell?_of_block (a := ⟨gD, oD + I * 8 + 6, none⟩) (hb.block gD hgD)).trans yc6, (World.cell?_of_block (a := ⟨gD, oD + I * 8 + 7, none⟩) (hb.block gD hgD)).trans yc7⟩⟩
                  have hs0 := HSS.out w5.drew hbd
                  clear hqq hqc HU HA HBB HINV HED HFD HM HF0 HFN HLA HLB HOK H1 HL HLM K1 K2 K3 K4 HC hwi
                  go_region_held3 (fun W => (W.cell? ⟨ya, 1, none⟩ = some (.slice (some ⟨gA, oA, none⟩) 2 ck) ∧ W.cell? ⟨yb, 1, none⟩ = some (.slice (some ⟨gB, oB, none⟩) 2 cl)) ∧ (W.cell? ⟨gA, oA, none⟩ = some (.slice (some ⟨gC, oC, none⟩) a0.length cA) ∧ W.cell? ⟨gB, oB, none⟩ = some (.slice (some ⟨gD, oD, none⟩) b0.length cB) ∧ W.cell? ⟨gM, oM, none⟩ = some (.slice DM u0.length cM)) ∧ (W.cell? ⟨gC, oC + I * 8, none⟩ = some (.int .u8 x0) ∧ W.cell? ⟨gC, oC + I * 8 + 1, none⟩ = some (.int .u8 x1) ∧ W.cell? ⟨gC, oC + I * 8 + 2, none⟩ = some (.int .u8 x2) ∧ W.cell? ⟨gC, oC + I * 8 + 3, none⟩ = some (.int .u8 x3) ∧ W.cell? ⟨gC, oC + I * 8 + 4, none⟩ = some (.int .u8 x4) ∧ W.cell? ⟨gC, oC + I * 8 + 5, none⟩ = some (.int .u8 x5) ∧ W.cell? ⟨gC, oC + I * 8 + 6, none⟩ = some (.int .u8 x6) ∧ W.cell? ⟨gC, oC + I * 8 + 7, none⟩ = some (.int .u8 x7)) ∧ (W.cell? ⟨gD, oD + I * 8, none⟩ = some (.int .u8 y0) ∧ W.cell? ⟨gD, oD + I * 8 + 1, none⟩ = some (.int .u8 y1) ∧ W.cell? ⟨gD, oD + I * 8 + 2, none⟩ = some (.int .u8 y2) ∧ W.cell? ⟨gD, oD + I * 8 + 3, none⟩ = some (.int .u8 y3) ∧ W.cell? ⟨gD, oD + I * 8 + 4, none⟩ = some (.int .u8 y4) ∧ W.cell? ⟨gD, oD + I * 8 + 5, none⟩ = some (.int .u8 y5) ∧ W.cell? ⟨gD, oD + I * 8 + 6, none⟩ = some (.int .u8 y6) ∧ W.cell? ⟨gD, oD + I * 8 + 7, none⟩ = some (.int .u8 y7))) (first | with_reducible exact hs0 | with_reducible exact HSS.out _ hx6 | go_keep) (first | (go_at_call 27; refine (HKC.out w5.drew hbd).mono ?_; rintro e w6 ⟨rfl, hb6⟩; have hx6 : Below w5.heap.size w5 w6 := ext_trans hbd hb6))
                  all_goals
                    go_wp2
                    go_meet
                    exact ⟨rfl, hx6⟩
              case rest =>
                obtain ⟨rfl, hx6⟩ := hcut
                obtain ⟨w6, rfl⟩ : ∃ w6 : World, w6 = wc := ⟨_, rfl⟩
                have hgM5 : gM < w5.heap.size := hgM
                have cM6 : w6.cell? ⟨gM, oM, none⟩ = some (.slice DM u0.length cM) := (World.cell?_of_block (a := ⟨gM, oM, none⟩) (hx6.block gM hgM5)).trans cM2
                have HK6 := Lib.hid (HKC.out w6 hx6)
                have h46 : Below w4.heap.size w4 w6 := ext_trans hB5 hx6
                clear e0 e1 e2 f0 f1 f2 cA2 cB2 cM2 xa0 xa1 xa2 xa3 xa4 xa5 xa6 xa7 yc0 yc1 yc2 yc3 yc4 yc5 yc6 yc7 hq hqq HKC
                go_wp2_with fail
                refine HK6.out.mono ?_
                rintro e w7 ⟨rfl, hb7⟩
                have h47 : Below w4.heap.size w4 w7 := ext_trans h46 hb7
                have h37 : Below w3.heap.size w3 w7 := ext_trans hb4 h47
                clear cM6 HK6
                obtain ⟨⟨e0, e1, e2⟩, f0, f1, f2⟩ := HY.out w7 h37
                cases qc with
                | false =>
                  go_wp2_with fail
                  go_roundw
                  case rel => exact ⟨I + 1, by omega, by go_num, h47⟩
                  case measure => simp [intOf]; omega
                | true =>
                  go_upto_region 23 with (fail)
                  obtain ⟨lo, hlo⟩ : ∃ z, min sa sb = z := ⟨_, rfl⟩
                  obtain ⟨hi, hhi⟩ : ∃ z, max sa sb = z := ⟨_, rfl⟩
                  have hmn : min (sa : Int) (sb : Int) = (lo : Int) := by omega
                  have hmx : max (sa : Int) (sb : Int) = (hi : Int) := by omega
                  have hlh : lo ≤ hi := by omega
                  have hhx : hi < xs.length := by omega
                  have hwr : Hid (wrN xs 0 I lo (hi - lo) = true) := by
                    have h := written_any HINV.out hwi.out hjaa hjba (v := 0) (i := I) (by omega) (by have := hqc.out; rw [← HU.out.1] at this; exact this) HA.out.2 HBB.out.2
                    rw [hlo, hhi] at h
                    exact h
                  rw [hmn]
                  clear hlo hhi hmn e0 e1 e2 f0 f1 f2
                  have HMX := Lib.hid hmx
                  clear hmx
                  go_loopw [17, 18] (fun wt k wr => ∃ t kk : Nat, kk = lo + t ∧ kk ≤ hi ∧ k = .int .i64 kk ∧ (∃ qw, wt = .bool qw ∧ Hid (wrN xs 0 I lo t = qw)) ∧ Below w4.heap.size w4 wr) (fun _ k _ => hi - (intOf k).toNat)
                  case atStart => exact ⟨0, lo, rfl, hlh, rfl, ⟨false, rfl, rfl⟩, h47⟩
                  case round =>
                    obtain ⟨wz, rfl⟩ : ∃ wz : World, wz = wr := ⟨_, rfl⟩
                    obtain ⟨t, kk, hkk, hkh, rfl, ⟨qw, rfl, hqw⟩, hBz⟩ := hrel
                    have hmx := HMX.out
                    obtain ⟨⟨e0, e1, e2⟩, f0, f1, f2⟩ := HY.out wz (ext_trans hb4 hBz)
                    by_cases hk3 : kk < hi
                    · have hki : (kk : Int) < hi := by omega
                      have hkl : kk < xs.length := by omega
                      have hklI : (kk : Int) < xs.length := by omega
                      have hk0 : (0 : Int) ≤ kk := by omega
                      obtain ⟨bs, ofs, rfl, _, g0, g1, g2, g3, g4, hox⟩ := (H1.out.fwd (ext_trans hb04 hBz)).stp hkl
                      have hgd : Hid (xs.getD (lo + t) (0, 0, 0, 0, 0) = xs[kk]) := by rw [Hid, ← hkk, List.getD_eq_getElem?_getD, List.getElem?_eq_getElem hkl]; rfl
                      obtain ⟨x, hx⟩ : ∃ x, xs[kk] = x := ⟨_, rfl⟩
                      rw [hx] at g0 g1 g2 g3 g4 hox hgd
                      obtain ⟨ka, vb, sc, cc, ff⟩ := x
                      have HOX := Lib.hid hox
                      obtain ⟨⟨ka0, ka1⟩, _⟩ := hox
                      simp only at g0 g1 g2 g3 g4 ka0 ka1
                      obtain ⟨r8, hr8⟩ : ∃ r8, ka % 8 = r8 := ⟨_, rfl⟩
                      have hr8t : ka.tmod 8 = r8 := by rw [Int.tmod_eq_emod_of_nonneg ka0]; exact hr8
                      have HR8 := Lib.hid hr8
                      have hr80 : 0 ≤ r8 := by omega
                      have hr88 : r8 < 8 := by omega
                      obtain ⟨⟨v0, s0, dd⟩, hdw⟩ : ∃ z, Hid (dataW (ka, vb, sc, cc, ff) = z) := ⟨_, Lib.hid rfl⟩
                      have hbnd := data_bnd _ HOX.out
                      rw [hdw.out] at hbnd
                      obtain ⟨d1, d2, d3, d4, d5⟩ := hbnd
                      simp only at d1 d2 d3 d4 d5
                      have HDA := Lib.hid (data_any ka vb sc cc ff HOX.out v0 s0 dd hdw.out wz)
                      have HKK := Lib.hid hkk
                      clear hr8 hx hkk
                      go_wp2_with fail
                      refine HDA.out.mono ?_
                      rintro e w8 ⟨D5, c5, rfl, _, _, _, hb8⟩
                      have hB8 : Below w4.heap.size w4 (w8.alloc (.cells #[.int .i64 v0, .int .i64 s0, .slice D5 dd.length c5] 70)) := ext_alloc (ext_trans hBz hb8)
                      have hstep : Hid (wrN xs 0 I lo (t + 1) = (qw || decide (r8 < 4 ∧ v0 = 0 ∧ s0 ≤ I ∧ (I : Int) < s0 + dd.length))) := by
                        show (wrN xs 0 I lo t || decide (wroteAt xs (lo + t) 0 I)) = _
                        rw [hqw.out]
                        congr 1
                        rw [decide_eq_decide]
                        unfold wroteAt
                        rw [hgd.out, hdw.out]
                        unfold hits
                        simp only
                        rw [HR8.out]
                        exact Iff.rfl
                      obtain ⟨t0, t1, t2, _⟩ := blk3 (show (w8.alloc (.cells #[.int .i64 v0, .int .i64 s0, .slice D5 dd.length c5] 70)).heap[w8.heap.size]? = some _ from heap_alloc_new _ _)
                      have hg0 : (w8.alloc (.cells #[.int .i64 v0, .int .i64 s0, .slice D5 dd.length c5] 70)).cell? ⟨bs, ofs + kk * 5, none⟩ = some (.int .u8 ka) := by
                        have hbs : bs < wz.heap.size := World.block_lt_of_cell? wz _ g0
                        exact (World.cell?_of_block (a := ⟨bs, ofs + kk * 5, none⟩) ((Below.heap_alloc _ _ _ (Nat.lt_of_lt_of_le hbs hb8.size)).trans (hb8.block bs hbs))).trans g0
                      clear g0 g1 g2 g3 g4 HDA
                      go_upto_region 26 with (fail)
                      cases qw with
                      | true =>
                        go_wp2
                        go_roundw
                        case rel => exact ⟨t + 1, kk + 1, by have := HKK.out; omega, by omega, by go_num, ⟨true, rfl, by rw [Hid, hstep.out]; rfl⟩, hB8⟩
                        case measure => simp [intOf]; omega
                      | false =>
                        by_cases hk4 : r8 < 4
                        · by_cases hv0 : v0 = 0
                          · have hvb : (v0 == 0) = true := by simp [hv0]
                            have hsw : IntKind.i64.wrap (s0 + (dd.length : Int)) = s0 + (dd.length : Int) := IntWalk.i64_in _ (by omega)
                            have HV0 := Lib.hid hv0
                            clear hv0
                            by_cases hs0 : s0 ≤ (I : Int)
                            · by_cases hl0 : (I : Int) < s0 + dd.length
                              · go_wp2
                                go_roundw
                                case rel => exact ⟨t + 1, kk + 1, by have := HKK.out; omega, by omega, by go_num, ⟨true, rfl, by rw [Hid, hstep.out, decide_eq_true ⟨hk4, HV0.out, hs0, hl0⟩]; rfl⟩, hB8⟩
                                case measure => simp [intOf]; omega
                              · go_wp2
                                go_roundw
                                case rel => exact ⟨t + 1, kk + 1, by have := HKK.out; omega, by omega, by go_num, ⟨false, rfl, by rw [Hid, hstep.out, decide_eq_false (fun h => hl0 h.2.2.2)]; rfl⟩, hB8⟩
                                case measure => simp [intOf]; omega
                            · go_wp2
                              go_roundw
                              case rel => exact ⟨t + 1, kk + 1, by have := HKK.out; omega, by omega, by go_num, ⟨false, rfl, by rw [Hid, hstep.out, decide_eq_false (fun h => hs0 h.2.2.1)]; rfl⟩, hB8⟩
                              case measure => simp [intOf]; omega
                          · have hvb : (v0 == 0) = false := by simp [hv0]
                            go_wp2
                            go_roundw
                            case rel => exact ⟨t + 1, kk + 1, by have := HKK.out; omega, by omega, by go_num, ⟨false, rfl, by rw [Hid, hstep.out, decide_eq_false (fun h => hv0 h.2.1)]; rfl⟩, hB8⟩
                            case measure => simp [intOf]; omega
                        · go_wp2
                          go_roundw
                          case rel => exact ⟨t + 1, kk + 1, by have := HKK.out; omega, by omega, by go_num, ⟨false, rfl, by rw [Hid, hstep.out, decide_eq_false (fun h => hk4 h.1)]; rfl⟩, hB8⟩
                          case measure => simp [intOf]; omega
                    · have hkk2 : kk = hi := by omega
                      subst hkk2
                      have hngk : ¬ (kk : Int) < kk := by omega
                      have hqt : qw = true := by
                        have h := hwr.out
                        rw [show kk - lo = t by omega, hqw.out] at h
                        exact h
                      subst hqt
                      go_wp2_with fail
                      go_roundw
                      case rel => exact ⟨I + 1, by omega, by go_num, hBz⟩
                      case measure => simp [intOf]; omega
            · have hII : I = 5 := by omega
              subst hII
              go_wp2_with fail
              go_roundw
              case rel => exact ⟨0 + 1, by omega, rfl, hB5⟩
              case measure => simp [intOf]
      · as_aux_lemma =>
          have hBV := hB
          rw [show ((1 : Nat) : Int) = 1 from rfl]
          go_wp2_with fail
          go_loopw [16] (fun i wr => ∃ I : Nat, I ≤ 3 ∧ i = .int .i64 I ∧ Below w4.heap.size w4 wr) (fun i _ => 3 - (intOf i).toNat)
          case atStart => exact ⟨0, by omega, rfl, hBV⟩
          case round =>
            obtain ⟨wi, rfl⟩ : ∃ wi : World, wi = wr := ⟨_, rfl⟩
            obtain ⟨I, hI, rfl, hBI⟩ := hrel
            go_wp2_with fail
            refine (sizes36_any wi).mono ?_
            rintro e w5 ⟨g, rfl, hg1, hg2, hb5⟩
            obtain ⟨gg0, gg1, _⟩ := blk2 hg2
            have hB5 : Below w4.heap.size w4 w5 := ext_trans hBI hb5
            clear hg2
            by_cases hI2 : I < 3
            · have hIi : (I : Int) < 3 := by omega
              have hI0 : (0 : Int) ≤ I := by omega
              have h25 : Below w2.heap.size w2 w5 := ext_trans h24 hB5
              have h35 : Below w3.heap.size w3 w5 := ext_trans hb4 hB5
              obtain ⟨gA, oA, DA, cA, rfl, hgA, cA1, sA, _, _⟩ := (HED.out.fwd h25).sl (k := 1) (by simp)
              obtain ⟨gB, oB, DB, cB, rfl, hgB, cB1, sB, _, _⟩ := (HFD.out.fwd h25).sl (k := 1) (by simp)
              obtain ⟨gM, oM, DM, cM, rfl, hgM, cM1, sM, _, _⟩ := (HM.out.fwd hB5).sl (k := 1) (by simp)
              have hIA : I < a1.length := by omega
              have hIB : I < b1.length := by omega
              obtain ⟨gC, oC, x0, x1, x2, x3, x4, x5, x6, x7, rfl, hgC, hxe, _, xa0, xa1, xa2, xa3, xa4, xa5, xa6, xa7⟩ := sA.sec hIA
              obtain ⟨gD, oD, y0, y1, y2, y3, y4, y5, y6, y7, rfl, hgD, hye, _, yc0, yc1, yc2, yc3, yc4, yc5, yc6, yc7⟩ := sB.sec hIB
              have cA2 : w5.cell? ⟨gA, oA+ 1, none⟩ = some (.slice (some ⟨gC, oC, none⟩) a1.length cA) := cA1
              have cB2 : w5.cell? ⟨gB, oB+ 1, none⟩ = some (.slice (some ⟨gD, oD, none⟩) b1.length cB) := cB1
              have cM2 : w5.cell? ⟨gM, oM+ 1, none⟩ = some (.slice DM u1.length cM) := cM1
              clear cA1 cB1 cM1
              obtain ⟨⟨e0, e1, e2⟩, f0, f1, f2⟩ := HY.out w5 h35
              have hIal : (I : Int) < ((a1.length : Nat) : Int) := by omega
              have hIbl : (I : Int) < ((b1.length : Nat) : Int) := by omega
              obtain ⟨qc, hqc⟩ : ∃ z, Hid (u1.any (inExt I) = z) := ⟨_, Lib.hid rfl⟩
              have hq := fun W => run_eq_sec W x0 x1 x2 x3 x4 x5 x6 x7 y0 y1 y2 y3 y4 y5 y6 y7
              generalize hqq : ([x0, x1, x2, x3, x4, x5, x6, x7] == [y0, y1, y2, y3, y4, y5, y6, y7]) = q at hq
              have HKC := Lib.hid (fun W (hb : Below w5.heap.size w5 W) => contains_any DM cM u1 I W (((show SlAt encExt w5 (Bl w5.heap.size) DM u1 from sM).fwd hb)) (by omega) qc hqc.out)
              go_upto_region 18 with (fail)
              go_cut [106] (fun e wx => e = .bool false ∧ Below w5.heap.size w5 wx)
              case first =>
                cases q with
                | true =>
                  go_quiet (fail)
                  all_goals
                    go_wp2
                    go_meet
                    exact ⟨rfl, bDrew (Below.refl _ _) _⟩
                | false =>
                  have hqt : qc = true := by
                    cases qc with
                    | true => rfl
                    | false =>
                      have h1 := hqc.out
                      rw [← HU.out.2] at h1
                      have h2 := differs_any HINV.out hjaa hjba (v := 1) (i := I) (by omega) h1
                      rw [HA.out.1, HBB.out.1] at h2
                      have h3 : a1[I] = b1[I] := by
                        unfold secAt at h2
                        simpa [List.getD_eq_getElem?_getD, List.getElem?_eq_getElem hIA, List.getElem?_eq_getElem hIB] using h2
                      have hxe2 : a1[I]'hIA = [x0, x1, x2, x3, x4, x5, x6, x7] := hxe
                      have hye2 : b1[I]'hIB = [y0, y1, y2, y3, y4, y5, y6, y7] := hye
                      rw [hxe2, hye2] at h3
                      rw [h3] at hqq
                      simp at hqq
                  subst hqt
                  have hbd : Below w5.heap.size w5 w5.drew := (Below.refl _ _).drew
                  have hya5 : ya < w5.heap.size := Nat.lt_of_lt_of_le hyal h35.size
                  have hyb5 : yb < w5.heap.size := Nat.lt_of_lt_of_le hybl h35.size
                  have HSS : Hid (∀ W, Below w5.heap.size w5 W → ((W.cell? ⟨ya, 1, none⟩ = some (.slice (some ⟨gA, oA, none⟩) 2 ck) ∧ W.cell? ⟨yb, 1, none⟩ = some (.slice (some ⟨gB, oB, none⟩) 2 cl)) ∧ (W.cell? ⟨gA, oA+ 1, none⟩ = some (.slice (some ⟨gC, oC, none⟩) a1.length cA) ∧ W.cell? ⟨gB, oB+ 1, none⟩ = some (.slice (some ⟨gD, oD, none⟩) b1.length cB) ∧ W.cell? ⟨gM, oM+ 1, none⟩ = some (.slice DM u1.length cM)) ∧ (W.cell? ⟨gC, oC + I * 8, none⟩ = some (.int .u8 x0) ∧ W.cell? ⟨gC, oC + I * 8 + 1, none⟩ = some (.int .u8 x1) ∧ W.cell? ⟨gC, oC + I * 8 + 2, none⟩ = some (.int .u8 x2) ∧ W.cell? ⟨gC, oC + I * 8 + 3, none⟩ = some (.int .u8 x3) ∧ W.cell? ⟨gC, oC + I * 8 + 4, none⟩ = some (.int .u8 x4) ∧ W.cell? ⟨gC, oC + I * 8 + 5, none⟩ = some (.int .u8 x5) ∧ W.cell? ⟨gC, oC + I * 8 + 6, none⟩ = some (.int .u8 x6) ∧ W.cell? ⟨gC, oC + I * 8 + 7, none⟩ = some (.int .u8 x7)) ∧ (W.cell? ⟨gD, oD + I * 8, none⟩ = some (.int .u8 y0) ∧ W.cell? ⟨gD, oD + I * 8 + 1, none⟩ = some (.int .u8 y1) ∧ W.cell? ⟨gD, oD + I * 8 + 2, none⟩ = some (.int .u8 y2) ∧ W.cell? ⟨gD, oD + I * 8 + 3, none⟩ = some (.int .u8 y3) ∧ W.cell? ⟨gD, oD + I * 8 + 4, none⟩ = some (.int .u8 y4) ∧ W.cell? ⟨gD, oD + I * 8 + 5, none⟩ = some (.int .u8 y5) ∧ W.cell? ⟨gD, oD + I * 8 + 6, none⟩ = some (.int .u8 y6) ∧ W.cell? ⟨gD, oD + I * 8 + 7, none⟩ = some (.int .u8 y7)))) := fun W hb => ⟨⟨(World.cell?_of_block (a := ⟨ya, 1, none⟩) (hb.block ya hya5)).trans e1, (World.cell?_of_block (a := ⟨yb, 1, none⟩) (hb.block yb hyb5)).trans f1⟩, ⟨(World.cell?_of_block (a := ⟨gA, oA+ 1, none⟩) (hb.block gA hgA)).trans cA2, (World.cell?_of_block (a := ⟨gB, oB+ 1, none⟩) (hb.block gB hgB)).trans cB2, (World.cell?_of_block (a := ⟨gM, oM+ 1, none⟩) (hb.block gM hgM)).trans cM2⟩, ⟨(World.cell?_of_block (a := ⟨gC, oC + I * 8, none⟩) (hb.block gC hgC)).trans xa0, (World.cell?_of_block (a := ⟨gC, oC + I * 8 + 1, none⟩) (hb.block gC hgC)).trans xa1, (World.cell?_of_block (a := ⟨gC, oC + I * 8 + 2, none⟩) (hb.block gC hgC)).trans xa2, (World.cell?_of_block (a := ⟨gC, oC + I * 8 + 3, none⟩) (hb.block gC hgC)).trans xa3, (World.cell?_of_block (a := ⟨gC, oC + I * 8 + 4, none⟩) (hb.block gC hgC)).trans xa4, (World.cell?_of_block (a := ⟨gC, oC + I * 8 + 5, none⟩) (hb.block gC hgC)).trans xa5, (World.cell?_of_block (a := ⟨gC, oC + I * 8 + 6, none⟩) (hb.block gC hgC)).trans xa6, (World.cell?_of_block (a := ⟨gC, oC + I * 8 + 7, none⟩) (hb.block gC hgC)).trans xa7⟩, ⟨(World.cell?_of_block (a := ⟨gD, oD + I * 8, none⟩) (hb.block gD hgD)).trans yc0, (World.cell?_of_block (a := ⟨gD, oD + I * 8 + 1, none⟩) (hb.block gD hgD)).trans yc1, (World.cell?_of_block (a := ⟨gD, oD + I * 8 + 2, none⟩) (hb.block gD hgD)).trans yc2, (World.cell?_of_block (a := ⟨gD, oD + I * 8 + 3, none⟩) (hb.block gD hgD)).trans yc3, (World.cell?_of_block (a := ⟨gD, oD + I * 8 + 4, none⟩) (hb.block gD hgD)).trans yc4, (World.cell?_of_block (a := ⟨gD, oD + I * 8 + 5, none⟩) (hb.block gD hgD)).trans yc5, (World.cell?_of_block (a := ⟨gD, oD + I * 8 + 6, none⟩) (hb.block gD hgD)).trans yc6, (World.cell?_of_block (a := ⟨gD, oD + I * 8 + 7, none⟩) (hb.block gD hgD)).trans yc7⟩⟩
                  have hs0 := HSS.out w5.drew hbd
                  clear hqq hqc HU HA HBB HINV HED HFD HM HF0 HFN HLA HLB HOK H1 HL HLM K1 K2 K3 K4 HC hwi
                  go_region_held3 (fun W => (W.cell? ⟨ya, 1, none⟩ = some (.slice (some ⟨gA, oA, none⟩) 2 ck) ∧ W.cell? ⟨yb, 1, none⟩ = some (.slice (some ⟨gB, oB, none⟩) 2 cl)) ∧ (W.cell? ⟨gA, oA+ 1, none⟩ = some (.slice (some ⟨gC, oC, none⟩) a1.length cA) ∧ W.cell? ⟨gB, oB+ 1, none⟩ = some (.slice (some ⟨gD, oD, none⟩) b1.length cB) ∧ W.cell? ⟨gM, oM+ 1, none⟩ = some (.slice DM u1.length cM)) ∧ (W.cell? ⟨gC, oC + I * 8, none⟩ = some (.int .u8 x0) ∧ W.cell? ⟨gC, oC + I * 8 + 1, none⟩ = some (.int .u8 x1) ∧ W.cell? ⟨gC, oC + I * 8 + 2, none⟩ = some (.int .u8 x2) ∧ W.cell? ⟨gC, oC + I * 8 + 3, none⟩ = some (.int .u8 x3) ∧ W.cell? ⟨gC, oC + I * 8 + 4, none⟩ = some (.int .u8 x4) ∧ W.cell? ⟨gC, oC + I * 8 + 5, none⟩ = some (.int .u8 x5) ∧ W.cell? ⟨gC, oC + I * 8 + 6, none⟩ = some (.int .u8 x6) ∧ W.cell? ⟨gC, oC + I * 8 + 7, none⟩ = some (.int .u8 x7)) ∧ (W.cell? ⟨gD, oD + I * 8, none⟩ = some (.int .u8 y0) ∧ W.cell? ⟨gD, oD + I * 8 + 1, none⟩ = some (.int .u8 y1) ∧ W.cell? ⟨gD, oD + I * 8 + 2, none⟩ = some (.int .u8 y2) ∧ W.cell? ⟨gD, oD + I * 8 + 3, none⟩ = some (.int .u8 y3) ∧ W.cell? ⟨gD, oD + I * 8 + 4, none⟩ = some (.int .u8 y4) ∧ W.cell? ⟨gD, oD + I * 8 + 5, none⟩ = some (.int .u8 y5) ∧ W.cell? ⟨gD, oD + I * 8 + 6, none⟩ = some (.int .u8 y6) ∧ W.cell? ⟨gD, oD + I * 8 + 7, none⟩ = some (.int .u8 y7))) (first | with_reducible exact hs0 | with_reducible exact HSS.out _ hx6 | go_keep) (first | (go_at_call 27; refine (HKC.out w5.drew hbd).mono ?_; rintro e w6 ⟨rfl, hb6⟩; have hx6 : Below w5.heap.size w5 w6 := ext_trans hbd hb6))
                  all_goals
                    go_wp2
                    go_meet
                    exact ⟨rfl, hx6⟩
              case rest =>
                obtain ⟨rfl, hx6⟩ := hcut
                obtain ⟨w6, rfl⟩ : ∃ w6 : World, w6 = wc := ⟨_, rfl⟩
                have hgM5 : gM < w5.heap.size := hgM
                have cM6 : w6.cell? ⟨gM, oM+ 1, none⟩ = some (.slice DM u1.length cM) := (World.cell?_of_block (a := ⟨gM, oM+ 1, none⟩) (hx6.block gM hgM5)).trans cM2
                have HK6 := Lib.hid (HKC.out w6 hx6)
                have h46 : Below w4.heap.size w4 w6 := ext_trans hB5 hx6
                clear e0 e1 e2 f0 f1 f2 cA2 cB2 cM2 xa0 xa1 xa2 xa3 xa4 xa5 xa6 xa7 yc0 yc1 yc2 yc3 yc4 yc5 yc6 yc7 hq hqq HKC
                go_wp2_with fail
                refine HK6.out.mono ?_
                rintro e w7 ⟨rfl, hb7⟩
                have h47 : Below w4.heap.size w4 w7 := ext_trans h46 hb7
                have h37 : Below w3.heap.size w3 w7 := ext_trans hb4 h47
                clear cM6 HK6
                obtain ⟨⟨e0, e1, e2⟩, f0, f1, f2⟩ := HY.out w7 h37
                cases qc with
                | false =>
                  go_wp2_with fail
                  go_roundw
                  case rel => exact ⟨I + 1, by omega, by go_num, h47⟩
                  case measure => simp [intOf]; omega
                | true =>
                  go_upto_region 23 with (fail)
                  obtain ⟨lo, hlo⟩ : ∃ z, min sa sb = z := ⟨_, rfl⟩
                  obtain ⟨hi, hhi⟩ : ∃ z, max sa sb = z := ⟨_, rfl⟩
                  have hmn : min (sa : Int) (sb : Int) = (lo : Int) := by omega
                  have hmx : max (sa : Int) (sb : Int) = (hi : Int) := by omega
                  have hlh : lo ≤ hi := by omega
                  have hhx : hi < xs.length := by omega
                  have hwr : Hid (wrN xs 1 I lo (hi - lo) = true) := by
                    have h := written_any HINV.out hwi.out hjaa hjba (v := 1) (i := I) (by omega) (by have := hqc.out; rw [← HU.out.2] at this; exact this) HA.out.2 HBB.out.2
                    rw [hlo, hhi] at h
                    exact h
                  rw [hmn]
                  clear hlo hhi hmn e0 e1 e2 f0 f1 f2
                  have HMX := Lib.hid hmx
                  clear hmx
                  go_loopw [17, 18] (fun wt k wr => ∃ t kk : Nat, kk = lo + t ∧ kk ≤ hi ∧ k = .int .i64 kk ∧ (∃ qw, wt = .bool qw ∧ Hid (wrN xs 1 I lo t = qw)) ∧ Below w4.heap.size w4 wr) (fun _ k _ => hi - (intOf k).toNat)
                  case atStart => exact ⟨0, lo, rfl, hlh, rfl, ⟨false, rfl, rfl⟩, h47⟩
                  case round =>
                    obtain ⟨wz, rfl⟩ : ∃ wz : World, wz = wr := ⟨_, rfl⟩
                    obtain ⟨t, kk, hkk, hkh, rfl, ⟨qw, rfl, hqw⟩, hBz⟩ := hrel
                    have hmx := HMX.out
                    obtain ⟨⟨e0, e1, e2⟩, f0, f1, f2⟩ := HY.out wz (ext_trans hb4 hBz)
                    by_cases hk3 : kk < hi
                    · have hki : (kk : Int) < hi := by omega
                      have hkl : kk < xs.length := by omega
                      have hklI : (kk : Int) < xs.length := by omega
                      have hk0 : (0 : Int) ≤ kk := by omega
                      obtain ⟨bs, ofs, rfl, _, g0, g1, g2, g3, g4, hox⟩ := (H1.out.fwd (ext_trans hb04 hBz)).stp hkl
                      have hgd : Hid (xs.getD (lo + t) (0, 0, 0, 0, 0) = xs[kk]) := by rw [Hid, ← hkk, List.getD_eq_getElem?_getD, List.getElem?_eq_getElem hkl]; rfl
                      obtain ⟨x, hx⟩ : ∃ x, xs[kk] = x := ⟨_, rfl⟩
                      rw [hx] at g0 g1 g2 g3 g4 hox hgd
                      obtain ⟨ka, vb, sc, cc, ff⟩ := x
                      have HOX := Lib.hid hox
                      obtain ⟨⟨ka0, ka1⟩, _⟩ := hox
                      simp only at g0 g1 g2 g3 g4 ka0 ka1
                      obtain ⟨r8, hr8⟩ : ∃ r8, ka % 8 = r8 := ⟨_, rfl⟩
                      have hr8t : ka.tmod 8 = r8 := by rw [Int.tmod_eq_emod_of_nonneg ka0]; exact hr8
                      have HR8 := Lib.hid hr8
                      have hr80 : 0 ≤ r8 := by omega
                      have hr88 : r8 < 8 := by omega
                      obtain ⟨⟨v0, s0, dd⟩, hdw⟩ : ∃ z, Hid (dataW (ka, vb, sc, cc, ff) = z) := ⟨_, Lib.hid rfl⟩
                      have hbnd := data_bnd _ HOX.out
                      rw [hdw.out] at hbnd
                      obtain ⟨d1, d2, d3, d4, d5⟩ := hbnd
                      simp only at d1 d2 d3 d4 d5
                      have HDA := Lib.hid (data_any ka vb sc cc ff HOX.out v0 s0 dd hdw.out wz)
                      have HKK := Lib.hid hkk
                      clear hr8 hx hkk
                      go_wp2_with fail
                      refine HDA.out.mono ?_
                      rintro e w8 ⟨D5, c5, rfl, _, _, _, hb8⟩
                      have hB8 : Below w4.heap.size w4 (w8.alloc (.cells #[.int .i64 v0, .int .i64 s0, .slice D5 dd.length c5] 70)) := ext_alloc (ext_trans hBz hb8)
                      have hstep : Hid (wrN xs 1 I lo (t + 1) = (qw || decide (r8 < 4 ∧ v0 = 1 ∧ s0 ≤ I ∧ (I : Int) < s0 + dd.length))) := by
                        show (wrN xs 1 I lo t || decide (wroteAt xs (lo + t) 1 I)) = _
                        rw [hqw.out]
                        congr 1
                        rw [decide_eq_decide]
                        unfold wroteAt
                        rw [hgd.out, hdw.out]
                        unfold hits
                        simp only
                        rw [HR8.out]
                        exact Iff.rfl
                      obtain ⟨t0, t1, t2, _⟩ := blk3 (show (w8.alloc (.cells #[.int .i64 v0, .int .i64 s0, .slice D5 dd.length c5] 70)).heap[w8.heap.size]? = some _ from heap_alloc_new _ _)
                      have hg0 : (w8.alloc (.cells #[.int .i64 v0, .int .i64 s0, .slice D5 dd.length c5] 70)).cell? ⟨bs, ofs + kk * 5, none⟩ = some (.int .u8 ka) := by
                        have hbs : bs < wz.heap.size := World.block_lt_of_cell? wz _ g0
                        exact (World.cell?_of_block (a := ⟨bs, ofs + kk * 5, none⟩) ((Below.heap_alloc _ _ _ (Nat.lt_of_lt_of_le hbs hb8.size)).trans (hb8.block bs hbs))).trans g0
                      clear g0 g1 g2 g3 g4 HDA
                      go_upto_region 26 with (fail)
                      cases qw with
                      | true =>
                        go_wp2
                        go_roundw
                        case rel => exact ⟨t + 1, kk + 1, by have := HKK.out; omega, by omega, by go_num, ⟨true, rfl, by rw [Hid, hstep.out]; rfl⟩, hB8⟩
                        case measure => simp [intOf]; omega
                      | false =>
                        by_cases hk4 : r8 < 4
                        · by_cases hv0 : v0 = 1
                          · have hvb : (v0 == 1) = true := by simp [hv0]
                            have hsw : IntKind.i64.wrap (s0 + (dd.length : Int)) = s0 + (dd.length : Int) := IntWalk.i64_in _ (by omega)
                            have HV0 := Lib.hid hv0
                            clear hv0
                            by_cases hs0 : s0 ≤ (I : Int)
                            · by_cases hl0 : (I : Int) < s0 + dd.length
                              · go_wp2
                                go_roundw
                                case rel => exact ⟨t + 1, kk + 1, by have := HKK.out; omega, by omega, by go_num, ⟨true, rfl, by rw [Hid, hstep.out, decide_eq_true ⟨hk4, HV0.out, hs0, hl0⟩]; rfl⟩, hB8⟩
                                case measure => simp [intOf]; omega
                              · go_wp2
                                go_roundw
                                case rel => exact ⟨t + 1, kk + 1, by have := HKK.out; omega, by omega, by go_num, ⟨false, rfl, by rw [Hid, hstep.out, decide_eq_false (fun h => hl0 h.2.2.2)]; rfl⟩, hB8⟩
                                case measure => simp [intOf]; omega
                            · go_wp2
                              go_roundw
                              case rel => exact ⟨t + 1, kk + 1, by have := HKK.out; omega, by omega, by go_num, ⟨false, rfl, by rw [Hid, hstep.out, decide_eq_false (fun h => hs0 h.2.2.1)]; rfl⟩, hB8⟩
                              case measure => simp [intOf]; omega
                          · have hvb : (v0 == 1) = false := by simp [hv0]
                            go_wp2
                            go_roundw
                            case rel => exact ⟨t + 1, kk + 1, by have := HKK.out; omega, by omega, by go_num, ⟨false, rfl, by rw [Hid, hstep.out, decide_eq_false (fun h => hv0 h.2.1)]; rfl⟩, hB8⟩
                            case measure => simp [intOf]; omega
                        · go_wp2
                          go_roundw
                          case rel => exact ⟨t + 1, kk + 1, by have := HKK.out; omega, by omega, by go_num, ⟨false, rfl, by rw [Hid, hstep.out, decide_eq_false (fun h => hk4 h.1)]; rfl⟩, hB8⟩
                          case measure => simp [intOf]; omega
                    · have hkk2 : kk = hi := by omega
                      subst hkk2
                      have hngk : ¬ (kk : Int) < kk := by omega
                      have hqt : qw = true := by
                        have h := hwr.out
                        rw [show kk - lo = t by omega, hqw.out] at h
                        exact h
                      subst hqt
                      go_wp2_with fail
                      go_roundw
                      case rel => exact ⟨I + 1, by omega, by go_num, hBz⟩
                      case measure => simp [intOf]; omega
            · have hII : I = 3 := by omega
              subst hII
              go_wp2_with fail
              go_roundw
              case rel => exact ⟨1 + 1, by omega, rfl, hB5⟩
              case measure => simp [intOf]
    · have hVV : V = 2 := by omega
      subst hVV
      go_upto_region 29 with (fail)
      go_wp2_with fail
      refine (awake36_any _).mono ?_
      rintro e wz ⟨rfl, hbz⟩
      go_wp2
      go_ret
      exact ⟨rfl, ext_trans hB0 (ext_trans (ext_trans hb04 hB) hbz)⟩
end Go.Proofs.YtgmeghandjkkcaaGreat
