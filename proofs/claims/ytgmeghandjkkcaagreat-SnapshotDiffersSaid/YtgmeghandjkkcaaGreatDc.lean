/-
  A run of steps over snapshots: the walk.
-/
import Derived.Test.YtgmeghandjkkcaaGreatDb
import Derived.Test.YtgmeghandjkkcaaGreatSr
import Derived.Test.YtgmeghandjkkcaaGreatKf
import Derived.Test.YtgmeghandjkkcaaGreatKe
set_option linter.unusedVariables false
set_option linter.unusedSimpArgs false
set_option linter.unusedSectionVars false
set_option linter.unnecessarySimpa false
namespace Go.Proofs.YtgmeghandjkkcaaGreat
open Go.RowKit Go.Shelf
attribute [local go_sem] Oper.semAt_some

theorem sl53 {w : World} {g : Nat} {S : Nat → Prop} (h : w.heap[g]? = some (.cells #[.int .i64 5, .int .i64 3] 3 (0, 0))) (hg : S g) : SlAt encInt w S (some ⟨g, 0, none⟩) [5, 3] := by
  obtain ⟨h0, h1, _⟩ := blk2 h
  refine fun _ => ⟨g, 0, rfl, hg, fun i x hx => ?_⟩
  match i, hx with
  | 0, hx =>
    simp at hx
    subst hx
    refine ⟨[.int .i64 5], fun j v hv => ?_, rfl, by unfold I64; omega⟩
    cases j with
    | zero => simp at hv; subst hv; exact h0
    | succ j => simp at hv
  | 1, hx =>
    simp at hx
    subst hx
    refine ⟨[.int .i64 3], fun j v hv => ?_, rfl, by unfold I64; omega⟩
    cases j with
    | zero => simp at hv; subst hv; exact h1
    | succ j => simp at hv
  | i + 2, hx => simp at hx
theorem sl1wr {W : World} {tb : Nat} {T : TypeId} {S : Nat → Prop} {v s : Int} {d : List Sec} {D : Option Addr} {c : Nat} (h : W.heap[tb]? = some (.cells #[.int .i64 v, .int .i64 s, .slice D d.length c] T (0, 0))) (hv : I64 v) (hs : I64 s) (h3 : d.length ≤ c) (h4 : c ≤ maxLen) (hd : SlAt encSec W S D d) (hS : S tb) : SlAt encWr W S (some ⟨tb, 0, none⟩) [(v, s, d)] := by
  refine fun _ => ⟨tb, 0, rfl, hS, fun i y hy => ?_⟩
  cases i with
  | succ i => cases hy
  | zero =>
    cases hy
    refine ⟨[.int .i64 v, .int .i64 s, .slice D d.length c], fun j u hu => ?_, wr_mk (x := (v, s, d)) hv hs h3 h4 hd⟩
    rw [cell_of_row _ _ _ _ _ _ h]
    simpa using hu
set_option maxHeartbeats 8000000 in
set_option maxRecDepth 100000 in
theorem run36_any (A0 : Option Addr) (c0 n : Nat) (xs : List Stp) (w : World) (hn : xs.length = n) (h0 : SlAt encStp w (Bl w.heap.size) A0 xs) (hl : n ≤ 25) (im : Img) (l : List Snp) (all : List Kpt) (ht : runT xs n = (im, l, all)) :
    Calls Tryz.prog 25 #[.slice A0 n c0] w fun e w' => ∃ B vc D dc A ac Bi vi, e = .returned (.tuple #[.agg #[.slice B im.length vc, .slice D l.length dc], .slice A all.length ac, .slice Bi im.length vi, .bool true]) ∧ (im.length ≤ vc ∧ vc ≤ maxLen ∧ l.length ≤ dc ∧ dc ≤ maxLen ∧ all.length ≤ ac ∧ ac ≤ maxLen ∧ im.length ≤ vi ∧ vi ≤ maxLen) ∧ SlAt (encSl encSec) w' (Nw w.heap.size w'.heap.size) B im ∧ SlAt encSnp w' (Nw w.heap.size w'.heap.size) D l ∧ SlAt encK w' (Nw w.heap.size w'.heap.size) A all ∧ SlAt (encSl encSec) w' (Nw w.heap.size w'.heap.size) Bi im ∧ Below w.heap.size w w' := by
  subst hn
  have HTT := Lib.hid ht
  clear ht
  have H0 : Hid (∀ w', Below w.heap.size w w' → SlAt encStp w' (Bl w.heap.size) A0 xs) := fun w' hb => h0.below hb
  have hok : Hid (∀ x ∈ xs, OkStp x) := fun x hx => by
    obtain ⟨k, hk, rfl⟩ := List.mem_iff_getElem.1 hx
    obtain ⟨_, _, _, _, _, _, _, _, _, h⟩ := h0.stp hk
    exact h
  have HINV := Lib.hid (fun k (h1 : k ≤ xs.length) => runT_inv hok.out k h1 (by omega))
  clear h0
  obtain ⟨n0, hn0⟩ : ∃ n0, w.heap.size = n0 := ⟨_, rfl⟩
  obtain ⟨W0, hW0⟩ : ∃ W0, w.alloc (.cells #[.slice none 0 0, .slice none 0 0] 26) = W0 := ⟨_, rfl⟩
  have hB0 : Below n0 w W0 := by rw [← hW0, ← hn0]; exact ext_alloc (Below.refl _ _)
  have hr0 : W0.heap[n0]? = some (.cells #[.slice none 0 0, .slice none 0 0] 26 (0, 0)) := by rw [← hW0, ← hn0]; exact heap_alloc_new _ _
  have hs0 : W0.heap.size = n0 + 1 := by rw [← hW0, ← hn0]; simp
  have HS0 := Lib.hid hs0
  have hsl : n0 < W0.heap.size := by omega
  have hsg : n0 + 1 ≤ W0.heap.size := by omega
  have HR0 := Lib.hid hr0
  have HW0 := Lib.hid hW0
  clear hs0 hr0 hW0
  go_enter Tryz.func25, Tryz.ntmps25
  go_upto_region 1 with (fail)
  try rw [HW0.out]
  go_wp2_with fail
  refine (sizes36_any W0).mono ?_
  rintro e w1 ⟨g, rfl, hg1, hg2, hb1⟩
  have hgl : g < w1.heap.size := (Array.getElem?_eq_some_iff.1 hg2).1
  have hsz0 : sizesN (lens img0) = 0 := by decide
  have hnew : newS img0 = (img0, []) := by unfold newS; rw [if_pos hsz0]
  have hlim0 : SnLim img0 [] := ⟨by decide, by decide +kernel, by simp, fun x hx => by cases hx⟩
  have hn := imgNew_any (some ⟨g, 0, none⟩) 2 [5, 3] w1 (sl53 hg2 hgl) (by simp) 0 (by decide) img0 (by decide +kernel)
  have hst0 : runT xs 0 = (img0, [], []) := rfl
  have hinv0 : RInv 0 img0 [] [] := HINV.out 0 (by omega)
  obtain ⟨i0, hi0⟩ : ∃ i0, img0 = i0 := ⟨_, rfl⟩
  rw [hi0] at hsz0 hnew hlim0 hn hst0 hinv0
  have HN := Lib.hid hn
  have HST0 := Lib.hid hst0
  have HINV0 := Lib.hid hinv0
  have hlen0 := hlim0.ims
  clear hg2 hi0 hn hst0 hinv0
  go_wp2_with fail
  refine HN.out.mono ?_
  rintro e w2 ⟨Bi, vi, rfl, i1, i2, i3, hb2⟩
  have hi3 := Lib.hid i3
  have hsn := snNew_any Bi vi i0.length i0 w2 rfl (i3.more (fun g hg => hg.2)) hlim0
  rw [hnew, hsz0] at hsn
  have HSN := Lib.hid hsn
  clear HN i3 hsn hnew hsz0 hlim0
  go_wp2_with fail
  refine HSN.out.mono ?_
  rintro e w3 ⟨B, vc, D, dc, mid, rfl, hsn, hb3⟩
  have hrd := hsn.read
  simp only at hrd
  have HRD := Lib.hid hrd
  clear hsn hrd HSN
  go_upto_region 3 with (fail)
  obtain ⟨sb, hsb⟩ : ∃ sb, w3.heap.size = sb := ⟨_, rfl⟩
  obtain ⟨w4, hw4⟩ : ∃ w4, w3.alloc (.cells #[.slice B i0.length vc, .slice D 0 dc] 26) = w4 := ⟨_, rfl⟩
  try rw [hw4]
  try rw [hsb]
  have hb4 : Below w3.heap.size w3 w4 := by rw [← hw4]; exact ext_alloc (Below.refl _ _)
  have hr4 : w4.heap[sb]? = some (.cells #[.slice B i0.length vc, .slice D 0 dc] 26 (0, 0)) := by rw [← hw4, ← hsb]; exact heap_alloc_new _ _
  have hz1 := hb1.size
  have hz2 := hb2.size
  have hz3 := hb3.size
  have hz4 : sb < w4.heap.size := (Array.getElem?_eq_some_iff.1 hr4).1
  have hb04 : Below W0.heap.size W0 w4 := ext_trans hb1 (ext_trans hb2 (ext_trans hb3 hb4))
  have hB4 : Below n0 w w4 := hB0.trans (hb04.mono (by omega))
  have hnsb : n0 < sb := by omega
  have hM4 : Hid (RunM W0.heap.size n0 sb w4 B vc D dc Bi vi none 0 i0 [] []) := by
    refine ⟨hr4, (hb04.block n0 hsl).trans HR0.out, OwnX.nil_, ?_, ?_, ?_, ?_⟩
    · exact (HRD.out.1.2.2.blk (fun b hb => hb4.block b hb.2)).more (fun b hb => ⟨⟨by have := hb.1; omega, by have := hb.2; have := hb4.size; omega⟩, fun e => by have := hb.1; have := hb.2; omega, by simp [Value.ownBlock]⟩)
    · exact (HRD.out.2.2.2.blk (fun b hb => hb4.block b hb.2)).more (fun b hb => ⟨⟨by have := hb.1; omega, by have := hb.2; have := hb4.size; omega⟩, fun e => by have := hb.1; have := hb.2; omega, by simp [Value.ownBlock]⟩)
    · exact (hi3.out.blk (fun b hb => (hb4.block b (by have := hb.2; omega)).trans (hb3.block b hb.2))).more (fun b hb => ⟨⟨by have := hb.1; omega, by have := hb.2; have := hb4.size; omega⟩, fun e => by have := hb.1; have := hb.2; omega, by simp [Value.ownBlock]⟩)
    · exact ⟨HRD.out.1.1, HRD.out.1.2.1, HRD.out.2.1, HRD.out.2.2.1, i1, i2⟩
  clear hw4 hr4 hb4 hb3 hi3 HRD i1 i2
  go_wp2_with fail
  go_loopw [6, 10, 11] (fun imS allS iS wr => ∃ (k : Nat) (B : Option Addr) (vc : Nat) (D : Option Addr) (dc : Nat) (Bi : Option Addr) (vi : Nat) (A : Option Addr) (ac : Nat) (im : Img) (l : List Snp) (all : List Kpt), k ≤ xs.length ∧ iS = .int .i64 k ∧ imS = .slice Bi im.length vi ∧ allS = .slice A all.length ac ∧ Below n0 w wr ∧ sb < wr.heap.size ∧ Hid (runT xs k = (im, l, all)) ∧ Hid (RInv k im l all) ∧ Hid (Cap l) ∧ Hid (RunM W0.heap.size n0 sb wr B vc D dc Bi vi A ac im l all)) (fun _ _ iS _ => xs.length - (intOf iS).toNat)
  case atStart => exact ⟨0, B, vc, D, dc, Bi, vi, none, 0, i0, [], [], by omega, rfl, rfl, rfl, hB4, hz4, HST0.out, HINV0.out, (show Cap [] from fun x hx => by cases hx), hM4.out⟩
  case round =>
    obtain ⟨wo, rfl⟩ : ∃ wo : World, wo = wr := ⟨_, rfl⟩
    obtain ⟨k, B, vc, D, dc, Bi, vi, A, ac, im2, l2, all2, hk, rfl, rfl, rfl, hB, hsbz, hst, hinv, hcap, hM⟩ := hrel
    obtain ⟨na, hna⟩ : ∃ na, all2.length = na := ⟨_, rfl⟩
    rw [hna]
    have HNA := Lib.hid hna
    by_cases hlt : k < xs.length
    · have hki : (k : Int) < xs.length := by omega
      have hkn : (0 : Int) ≤ k := by omega
      obtain ⟨b, off, rfl, hbb, g0, g1, g2, g3, g4, hox⟩ := (H0.out wo (by rw [hn0]; exact hB)).stp hlt
      have hst2 : Hid (runT xs (k + 1) = runS k xs[k] (im2, l2, all2)) := by
        have e : xs.getD k (0, 0, 0, 0, 0) = xs[k] := by rw [List.getD_eq_getElem?_getD, List.getElem?_eq_getElem hlt]; rfl
        show runS k (xs.getD k (0, 0, 0, 0, 0)) (runT xs k) = _
        rw [e, hst.out]
      have hinv2 := HINV.out (k + 1) hlt
      have hcap2 := runT_cap (xs := xs) (k + 1)
      rw [hst2.out] at hinv2 hcap2
      have hlen2 : na ≤ k := by rw [← hna]; exact hinv.out.len
      have hl22 : l2.length ≤ 25 := by have := hinv.out.len2; omega
      obtain ⟨x, hx⟩ : ∃ x, xs[k] = x := ⟨_, rfl⟩
      rw [hx] at hst2 g0 g1 g2 g3 g4 hox hinv2 hcap2
      obtain ⟨ka, vb, sc, cc, ff⟩ := x
      have HOX := Lib.hid hox
      obtain ⟨⟨ka0, ka1⟩, ⟨vb0, vb1⟩, ⟨sc0, sc1⟩, ⟨cc0, cc1⟩, ⟨ff0, ff1⟩⟩ := hox
      simp only at g0 g1 g2 g3 g4 ka0 ka1 ff0 ff1
      have HINV2 := Lib.hid hinv2
      have HCAP2 := Lib.hid hcap2
      clear hna
      have hnal : (na : Int) ≤ 25 := by omega
      have hff : (0 : Int) ≤ ff := ff0
      have hLM := Lib.hid (hinv.out.lim (by omega) hcap.out)
      have hbn : b < n0 := by have h : b < w.heap.size := hbb; omega
      have HCX : Hid (∀ W, Below n0 w W → W.cell? ⟨b, off + k * 5, none⟩ = some (.int .u8 ka) ∧ W.cell? ⟨b, off + k * 5 + 1, none⟩ = some (.int .u8 vb) ∧ W.cell? ⟨b, off + k * 5 + 2, none⟩ = some (.int .u8 sc) ∧ W.cell? ⟨b, off + k * 5 + 3, none⟩ = some (.int .u8 cc) ∧ W.cell? ⟨b, off + k * 5 + 4, none⟩ = some (.int .u8 ff)) := fun W hb => by
        have hk' := (hb.block b hbn).trans (hB.block b hbn).symm
        exact ⟨(World.cell?_of_block (a := ⟨b, off + k * 5, none⟩) hk').trans g0, (World.cell?_of_block (a := ⟨b, off + k * 5 + 1, none⟩) hk').trans g1, (World.cell?_of_block (a := ⟨b, off + k * 5 + 2, none⟩) hk').trans g2, (World.cell?_of_block (a := ⟨b, off + k * 5 + 3, none⟩) hk').trans g3, (World.cell?_of_block (a := ⟨b, off + k * 5 + 4, none⟩) hk').trans g4⟩
      clear hx hinv2 hcap2 hbb
      obtain ⟨r8, hr8⟩ : ∃ r8, ka % 8 = r8 := ⟨_, rfl⟩
      have hr8t : ka.tmod 8 = r8 := by rw [Int.tmod_eq_emod_of_nonneg ka0]; exact hr8
      have HR8 := Lib.hid hr8
      have hr80 : 0 ≤ r8 := by omega
      have hr88 : r8 < 8 := by omega
      clear hr8
      obtain ⟨jj, hjj⟩ : ∃ jj, Hid (0 < na → stJ (ka, vb, sc, cc, ff) na = jj) := ⟨_, Lib.hid fun _ => rfl⟩
      go_upto_if 50 with (fail)
      go_cut [12] (fun e wx => (∃ j0 : Nat, e = .int .i64 j0 ∧ (0 < na → jj = j0)) ∧ wo = wx)
      case first =>
        by_cases hna : 0 < na
        · have hdi : (0 : Int) < na := by omega
          have hmod : ff % (na : Int) = (jj : Int) := by
            rw [← hjj.out hna]
            unfold stJ
            have h1 := Int.emod_nonneg ff (show (na : Int) ≠ 0 by omega)
            simp only
            omega
          go_wp2
          go_meet
          exact ⟨⟨jj, by first | rfl | rw [hmod], fun _ => rfl⟩, rfl⟩
        · have hdi : ¬ (0 : Int) < na := by omega
          go_wp2
          go_meet
          exact ⟨⟨0, rfl, fun h => absurd h hna⟩, rfl⟩
      case rest =>
        obtain ⟨⟨j0, rfl, hj0⟩, rfl⟩ := hcut
        have HJ0 := Lib.hid hj0
        clear hj0
        go_upto_region 12 with (fail)
        by_cases hk1 : r8 < 4
        · as_aux_lemma =>
            go_upto_region 13 with (fail)
            have HCS : Hid (∀ W, Below wo.heap.size wo W → W.cell? ⟨sb, 0, none⟩ = some (.slice B im2.length vc) ∧ W.cell? ⟨sb, 1, none⟩ = some (.slice D l2.length dc)) := fun W hb => by
              obtain ⟨p0, p1, _⟩ := blk2 ((hb.block sb hsbz).trans hM.out.row)
              exact ⟨p0, p1⟩
            have hnz : n0 ≤ wo.heap.size := by omega
            have HSX : Hid (∀ W, Below wo.heap.size wo W → (W.cell? ⟨sb, 0, none⟩ = some (.slice B im2.length vc) ∧ W.cell? ⟨sb, 1, none⟩ = some (.slice D l2.length dc)) ∧ W.cell? ⟨b, off + k * 5, none⟩ = some (.int .u8 ka) ∧ W.cell? ⟨b, off + k * 5 + 1, none⟩ = some (.int .u8 vb) ∧ W.cell? ⟨b, off + k * 5 + 2, none⟩ = some (.int .u8 sc) ∧ W.cell? ⟨b, off + k * 5 + 3, none⟩ = some (.int .u8 cc) ∧ W.cell? ⟨b, off + k * 5 + 4, none⟩ = some (.int .u8 ff)) := fun W hb => ⟨HCS.out W hb, HCX.out W (hB.trans (hb.mono hnz))⟩
            have hbd : Below wo.heap.size wo wo.drew := (Below.refl _ _).drew
            have hs0 := HSX.out wo.drew hbd
            obtain ⟨⟨v0, s0, dd⟩, hdw⟩ : ∃ q, Hid (dataW (ka, vb, sc, cc, ff) = q) := ⟨_, rfl⟩
            have HDA := Lib.hid (fun W => data_any ka vb sc cc ff HOX.out v0 s0 dd hdw.out W)
            have hdl : dd.length ≤ 10 := by
              have h1 := fits_ok sizes53 (data_fits (ka, vb, sc, cc, ff) HOX.out)
              rw [hdw.out] at h1
              have h3 := data_fits (ka, vb, sc, cc, ff) HOX.out
              rw [hdw.out, ← hinv.out.lens] at h3
              have h2 := fits_img h3
              obtain ⟨q1, q2, _, _, q3, _, q5⟩ := h2
              have h4 : (im2.getD q1 []).length ≤ 5 := by
                have h6 : lenI im2[q1] ∈ lens im2 := List.mem_map.2 ⟨_, List.getElem_mem q3, rfl⟩
                rw [hinv.out.lens] at h6
                rw [List.getD_eq_getElem?_getD, List.getElem?_eq_getElem q3]
                unfold lenI at h6
                simp at h6 ⊢
                omega
              simp only at q5
              omega
            have hvs : Hid (I64 v0 ∧ I64 s0) := by
              have h1 := fits_ok sizes53 (data_fits (ka, vb, sc, cc, ff) HOX.out)
              rw [hdw.out] at h1
              obtain ⟨q0, q1, q2, q3, q4⟩ := h1
              simp only at q0 q1 q2 q3 q4
              unfold I64
              refine ⟨⟨by omega, by omega⟩, by omega, by omega⟩
            have hfd : Hid (∀ y ∈ [(v0, s0, dd)], fitsN [5, 3] y = 0) := fun y hy => by
              rw [List.mem_singleton.1 hy, ← hdw.out]; exact data_fits (ka, vb, sc, cc, ff) HOX.out
            have hap := hinv.out.apply (ws := [(v0, s0, dd)]) hfd.out
            obtain ⟨ha1, ha2, _⟩ := hap
            obtain ⟨im3, him3⟩ : ∃ q, putAll im2 [(v0, s0, dd)] = q := ⟨_, rfl⟩
            obtain ⟨l3, hl3⟩ : ∃ q, (setLast l2 fun d => foldL (contL im2 [(v0, s0, dd)] ++ d)) = q := ⟨_, rfl⟩
            have hsA : sApply (im2, l2) [(v0, s0, dd)] = (im3, l3) := by unfold sApply; rw [if_pos ha1, ← him3, ← hl3]
            have HSA := Lib.hid (And.intro ha1 (And.intro ha2 hsA))
            have HAP : Hid (∀ W tb D5 c5, Below wo.heap.size wo W → tb < W.heap.size → W.heap[tb]? = some (.cells #[.int .i64 v0, .int .i64 s0, .slice D5 dd.length c5] 70 (0, 0)) → dd.length ≤ c5 → c5 ≤ maxLen → SlAt encSec W (Bl W.heap.size) D5 dd → Calls Tryz.prog 10 #[.agg #[.slice B im2.length vc, .slice D l2.length dc], .slice (some ⟨tb, 0, none⟩) 1 1] W (SnRdE (im3, l3) 0 W)) := fun W tb D5 c5 hb ht hr q1 q2 q3 => by
              have h := snApply_any B D (some ⟨tb, 0, none⟩) vc dc 1 im2.length l2.length 1 im2 l2 [(v0, s0, dd)] W rfl rfl rfl ((hM.out.below hb).cur.more (fun g hg => hg.1.2)) ((hM.out.below hb).its.more (fun g hg => hg.1.2)) (sl1wr hr hvs.out.1 hvs.out.2 q1 q2 q3 ht) hLM.out (by omega) (fun x hx => by have := hcap.out x hx; omega)
              rw [HSA.out.2.2, HSA.out.1] at h
              exact h.mono (fun _ _ h => h.rd)
            clear ha1 ha2 hsA
            have hbz : Below wo.heap.size wo (wo.alloc (.cells #[.slice none 0 0, .slice none 0 0] 26)).drew := (ext_alloc (Below.refl _ _)).drew
            go_cut [13, 14] (fun e f wx => ∃ (xb : Nat) (B7 : Option Addr) (v7 : Nat) (D7 : Option Addr) (d7 : Nat), e = .pointer (some ⟨xb, 0, none⟩) ∧ f = .int .i64 0 ∧ XRow wo.heap.size wo im3 l3 wx xb B7 v7 D7 d7)
            case first =>
              clear HINV2 HCAP2 hinv hcap hM hst hst2 hfd hvs hlen2 HTT hok HINV
              go_region_held3 (fun W => (W.cell? ⟨sb, 0, none⟩ = some (.slice B im2.length vc) ∧ W.cell? ⟨sb, 1, none⟩ = some (.slice D l2.length dc)) ∧ W.cell? ⟨b, off + k * 5, none⟩ = some (.int .u8 ka) ∧ W.cell? ⟨b, off + k * 5 + 1, none⟩ = some (.int .u8 vb) ∧ W.cell? ⟨b, off + k * 5 + 2, none⟩ = some (.int .u8 sc) ∧ W.cell? ⟨b, off + k * 5 + 3, none⟩ = some (.int .u8 cc) ∧ W.cell? ⟨b, off + k * 5 + 4, none⟩ = some (.int .u8 ff)) (first | with_reducible exact hs0 | with_reducible exact HSX.out _ hbz | with_reducible exact HSX.out _ hx7 | with_reducible exact HSX.out _ hx6b | with_reducible exact HSX.out _ hx6c | with_reducible exact HSX.out _ hx6d | with_reducible exact HSX.out _ hx6 | with_reducible exact HSX.out _ hx5 | with_reducible exact HSX.out _ ((hx7.setCell (p := ⟨_, 0, none⟩) hzb _).setCell (p := ⟨_, 1, none⟩) hzb _) | with_reducible exact HSX.out _ (ext_alloc hx7) | go_keep) (first | (go_at_call 10; (with_reducible refine Calls.at_w (w5.alloc (.cells #[.int .i64 v0, .int .i64 s0, .slice D5 dd.length c5] 70)) ?_); refine (HAP.out (w5.alloc (.cells #[.int .i64 v0, .int .i64 s0, .slice D5 dd.length c5] 70)) w5.heap.size D5 c5 hx6 (by simp) (heap_alloc_new _ _) y1 y2 hd6.out).mono ?_; rintro e w7 ⟨B7, v7, D7, d7, rfl, ⟨m1, m2, m3⟩, ⟨m4, m5, m6⟩, hb7⟩; have hx7 : Below wo.heap.size wo w7 := ext_trans hx6 hb7; have hz50 : wo.heap.size < w5.heap.size := (Array.getElem?_eq_some_iff.1 hzr5).1; have hzb : wo.heap.size ≤ wo.heap.size := Nat.le_refl _; have hzr : w7.heap[wo.heap.size]? = some (.cells #[.slice none 0 0, .slice none 0 0] 26 (0, 0)) := (hb7.block wo.heap.size (by simp; omega)).trans ((Below.heap_alloc w5 (.cells #[.int .i64 v0, .int .i64 s0, .slice D5 dd.length c5] 70) wo.heap.size hz50).trans hzr5); obtain ⟨t0, t1, tf⟩ := blk2 hzr) | (go_at_call 10; (with_reducible refine Calls.at_w (w5.alloc (.cells #[.int .i64 v0, .int .i64 s0, .slice D5 dd.length c5] 70)) ?_); refine (HAP.out (w5.alloc (.cells #[.int .i64 v0, .int .i64 s0, .slice D5 dd.length c5] 70)) w5.heap.size D5 c5 hx6 (by simp) (heap_alloc_new _ _) y1 y2 hd6.out).mono ?_; rintro e w7 ⟨B7, v7, D7, d7, rfl, ⟨m1, m2, m3⟩, ⟨m4, m5, m6⟩, hb7⟩; have hx7 : Below wo.heap.size wo w7 := ext_trans hx6 hb7; have hz7 : w5.heap.size ≤ w7.heap.size := (ext_trans (ext_alloc (Below.refl _ _)) hb7).size) | (go_at_call 10; (with_reducible refine Calls.at_w ((w5.alloc (.cells #[.int .i64 v0, .int .i64 s0, .slice D5 dd.length c5] 70)).alloc (.cells #[.slice none 0 0, .slice none 0 0] 26)) ?_); refine (HAP.out ((w5.alloc (.cells #[.int .i64 v0, .int .i64 s0, .slice D5 dd.length c5] 70)).alloc (.cells #[.slice none 0 0, .slice none 0 0] 26)) w5.heap.size D5 c5 hx6b (by simp; omega) ((Below.heap_alloc _ _ _ (by simp)).trans (heap_alloc_new _ _)) y1 y2 hd6b.out).mono ?_; rintro e w7 ⟨B7, v7, D7, d7, rfl, ⟨m1, m2, m3⟩, ⟨m4, m5, m6⟩, hb7⟩; have hx7 : Below wo.heap.size wo w7 := ext_trans hx6b hb7; have hzb : wo.heap.size ≤ w5.heap.size + 1 := Nat.le_succ_of_le hx5.size; have hzr : w7.heap[w5.heap.size + 1]? = some (.cells #[.slice none 0 0, .slice none 0 0] 26 (0, 0)) := (hb7.block (w5.heap.size + 1) (by simp)).trans (heap_new2 w5 (.cells #[.int .i64 v0, .int .i64 s0, .slice D5 dd.length c5] 70) (.cells #[.slice none 0 0, .slice none 0 0] 26)); obtain ⟨t0, t1, tf⟩ := blk2 hzr) | (go_at_call 10; (with_reducible refine Calls.at_w ((w5.alloc (.cells #[.slice none 0 0, .slice none 0 0] 26)).alloc (.cells #[.int .i64 v0, .int .i64 s0, .slice D5 dd.length c5] 70)) ?_); refine (HAP.out ((w5.alloc (.cells #[.slice none 0 0, .slice none 0 0] 26)).alloc (.cells #[.int .i64 v0, .int .i64 s0, .slice D5 dd.length c5] 70)) (w5.heap.size + 1) D5 c5 hx6c (by simp) (heap_new2 _ _ _) y1 y2 hd6c.out).mono ?_; rintro e w7 ⟨B7, v7, D7, d7, rfl, ⟨m1, m2, m3⟩, ⟨m4, m5, m6⟩, hb7⟩; have hx7 : Below wo.heap.size wo w7 := ext_trans hx6c hb7; have hzb : wo.heap.size ≤ w5.heap.size := hx5.size; have hzr : w7.heap[w5.heap.size]? = some (.cells #[.slice none 0 0, .slice none 0 0] 26 (0, 0)) := (hb7.block w5.heap.size (by simp; omega)).trans ((Below.heap_alloc _ _ _ (by simp)).trans (heap_alloc_new w5 (.cells #[.slice none 0 0, .slice none 0 0] 26))); obtain ⟨t0, t1, tf⟩ := blk2 hzr) | (go_at_call 28; (with_reducible refine Calls.at_w wo.drew ?_); refine (HDA.out wo.drew).mono ?_; rintro e w5 ⟨D5, c5, rfl, y1, y2, y3, hb5⟩; have hx5 : Below wo.heap.size wo w5 := ext_trans hbd hb5; have hx6 : Below wo.heap.size wo (w5.alloc (.cells #[.int .i64 v0, .int .i64 s0, .slice D5 dd.length c5] 70)) := ext_trans hx5 (ext_alloc (Below.refl _ _)); have hd5 := (y3.more (fun b hb => hb.2) : SlAt encSec w5 (Bl w5.heap.size) D5 dd); have hd6 := Lib.hid (hd5.fwd (ext_alloc (o := (.cells #[.int .i64 v0, .int .i64 s0, .slice D5 dd.length c5] 70)) (Below.refl _ _))); have hx6b : Below wo.heap.size wo ((w5.alloc (.cells #[.int .i64 v0, .int .i64 s0, .slice D5 dd.length c5] 70)).alloc (.cells #[.slice none 0 0, .slice none 0 0] 26)) := ext_trans hx6 (ext_alloc (Below.refl _ _)); have hx6d : Below wo.heap.size wo (w5.alloc (.cells #[.slice none 0 0, .slice none 0 0] 26)) := ext_trans hx5 (ext_alloc (Below.refl _ _)); have hx6c : Below wo.heap.size wo ((w5.alloc (.cells #[.slice none 0 0, .slice none 0 0] 26)).alloc (.cells #[.int .i64 v0, .int .i64 s0, .slice D5 dd.length c5] 70)) := ext_trans hx6d (ext_alloc (Below.refl _ _)); have hd6b := Lib.hid (hd6.out.fwd (ext_alloc (o := (.cells #[.slice none 0 0, .slice none 0 0] 26)) (Below.refl _ _))); have hd6c := Lib.hid ((hd5.fwd (ext_alloc (o := (.cells #[.slice none 0 0, .slice none 0 0] 26)) (Below.refl _ _))).fwd (ext_alloc (o := (.cells #[.int .i64 v0, .int .i64 s0, .slice D5 dd.length c5] 70)) (Below.refl _ _)))) | (go_at_call 28; (with_reducible refine Calls.at_w (wo.alloc (.cells #[.slice none 0 0, .slice none 0 0] 26)).drew ?_); refine (HDA.out (wo.alloc (.cells #[.slice none 0 0, .slice none 0 0] 26)).drew).mono ?_; rintro e w5 ⟨D5, c5, rfl, y1, y2, y3, hb5⟩; have hx5 : Below wo.heap.size wo w5 := ext_trans hbz hb5; have hx6 : Below wo.heap.size wo (w5.alloc (.cells #[.int .i64 v0, .int .i64 s0, .slice D5 dd.length c5] 70)) := ext_trans hx5 (ext_alloc (Below.refl _ _)); have hd5 := (y3.more (fun b hb => hb.2) : SlAt encSec w5 (Bl w5.heap.size) D5 dd); have hd6 := Lib.hid (hd5.fwd (ext_alloc (o := (.cells #[.int .i64 v0, .int .i64 s0, .slice D5 dd.length c5] 70)) (Below.refl _ _))); have hzr5 : w5.heap[wo.heap.size]? = some (.cells #[.slice none 0 0, .slice none 0 0] 26 (0, 0)) := (hb5.block wo.heap.size (by simp)).trans (heap_alloc_new wo (.cells #[.slice none 0 0, .slice none 0 0] 26))))
              · go_wp2
                go_meet
                exact ⟨_, B7, v7, D7, d7, rfl, rfl, XRow.mkAlloc (wc := w5.alloc (.cells #[.int .i64 v0, .int .i64 s0, .slice D5 dd.length c5] 70)) hx6.size hb7.size hx7 ⟨m1, m2, m4, m5⟩ m3 m6⟩
              · go_wp2
                go_meet
                exact ⟨_, B7, v7, D7, d7, rfl, rfl, XRow.mkSet (wc := (w5.alloc (.cells #[.int .i64 v0, .int .i64 s0, .slice D5 dd.length c5] 70)).alloc (.cells #[.slice none 0 0, .slice none 0 0] 26)) hx6b.size hzr hzb (by simp) hx7 ⟨m1, m2, m4, m5⟩ m3 m6⟩
              · go_wp2
                go_meet
                exact ⟨_, B7, v7, D7, d7, rfl, rfl, XRow.mkSet (wc := (w5.alloc (.cells #[.slice none 0 0, .slice none 0 0] 26)).alloc (.cells #[.int .i64 v0, .int .i64 s0, .slice D5 dd.length c5] 70)) hx6c.size hzr hzb (by simp; omega) hx7 ⟨m1, m2, m4, m5⟩ m3 m6⟩
              · go_wp2
                go_meet
                exact ⟨_, B7, v7, D7, d7, rfl, rfl, XRow.mkSet (wc := w5.alloc (.cells #[.int .i64 v0, .int .i64 s0, .slice D5 dd.length c5] 70)) hx6.size hzr hzb (by simp; omega) hx7 ⟨m1, m2, m4, m5⟩ m3 m6⟩
            case rest =>
              obtain ⟨xb, B7, v7, D7, d7, rfl, rfl, hX⟩ := hcut
              have HX := Lib.hid hX
              have hxc := hX.ext
              have hBc : Below n0 w wc := hB.trans (hxc.mono hnz)
              have HPI : Hid (∀ W tb D5 c5, Below wo.heap.size wo W → tb < W.heap.size → W.heap[tb]? = some (.cells #[.int .i64 v0, .int .i64 s0, .slice D5 dd.length c5] 70 (0, 0)) → dd.length ≤ c5 → c5 ≤ maxLen → SlAt encSec W (Bl W.heap.size) D5 dd → Calls Tryz.prog 35 #[.slice Bi im2.length vi, .slice (some ⟨tb, 0, none⟩) 1 1] W (ApplyRet im3 0 W)) := fun W tb D5 c5 hb ht hr q1 q2 q3 => by
                have h := apply_any Bi (some ⟨tb, 0, none⟩) vi 1 im2 [(v0, s0, dd)] W ((hM.out.below hb).imv.more (fun g hg => hg.1.2)) (by have := hLM.out.ims; omega) (sl1wr hr hvs.out.1 hvs.out.2 q1 q2 q3 ht) (by simp)
                rw [applyL, if_pos HSA.out.2.1, HSA.out.2.1, him3] at h
                exact h
              have HST3 : Hid (runT xs (k + 1) = (im3, l3, all2) ∧ RInv (k + 1) im3 l3 all2 ∧ Cap l3) := by
                have hR : runS k (ka, vb, sc, cc, ff) (im2, l2, all2) = (im3, l3, all2) := by
                  rw [runS_apply (show (ka, vb, sc, cc, ff).1 % 8 < 4 by show ka % 8 < 4; rw [HR8.out]; exact hk1), hdw.out, him3, hl3]
                have e1 := HINV2.out
                have e2 := HCAP2.out
                rw [hR] at e1 e2
                exact ⟨by rw [hst2.out, hR], e1, e2⟩
              clear hX HAP him3 hl3
              obtain ⟨q0, q1, q2, q3, q4⟩ := HCX.out wc hBc
              go_wp2_with fail
              refine (HDA.out wc).mono ?_
              rintro e w8 ⟨D8, c8, rfl, z1, z2, z3, hb8⟩
              have hx8 : Below wo.heap.size wo w8 := ext_trans hxc hb8
              have hd9 := Lib.hid ((z3.more (fun b hb => hb.2) : SlAt encSec w8 (Bl w8.heap.size) D8 dd).fwd (ext_alloc (o := (.cells #[.int .i64 v0, .int .i64 s0, .slice D8 dd.length c8] 70)) (Below.refl _ _)))
              have hx9 : Below wo.heap.size wo (w8.alloc (.cells #[.int .i64 v0, .int .i64 s0, .slice D8 dd.length c8] 70)) := ext_alloc hx8
              clear z3
              go_wp2_with fail
              refine (HPI.out (w8.alloc (.cells #[.int .i64 v0, .int .i64 s0, .slice D8 dd.length c8] 70)) w8.heap.size D8 c8 hx9 (by simp) (heap_alloc_new _ _) z1 z2 hd9.out).mono ?_
              rintro e w10 ⟨B10, v10, i10, rfl, y1, y2, y3, hb10⟩
              have hx10 : Below wo.heap.size wo w10 := ext_trans hx9 hb10
              have hc10 : Below wc.heap.size wc w10 := ext_trans (ext_alloc hb8) hb10
              have HX10 := Lib.hid (HX.out.fwd hxc.size hc10)
              have HM10 := Lib.hid (hM.out.next (by omega) (by omega) HX10.out (y3.more (fun g hg => hg.mono hx9.size (Nat.le_refl _))) ⟨y1, y2⟩)
              have hB11 : Below n0 w ((w10.setCell ⟨sb, 0, none⟩ (.slice B7 im3.length v7)).setCell ⟨sb, 1, none⟩ (.slice D7 l3.length d7)) := ((hB.trans (hx10.mono hnz)).setCell (p := ⟨sb, 0, none⟩) (by show n0 ≤ sb; omega) _).setCell (p := ⟨sb, 1, none⟩) (by show n0 ≤ sb; omega) _
              have hs11 : sb < ((w10.setCell ⟨sb, 0, none⟩ (.slice B7 im3.length v7)).setCell ⟨sb, 1, none⟩ (.slice D7 l3.length d7)).heap.size := by have := hx10.size; simp [World.setCell]; omega
              have HB11 := Lib.hid (And.intro hB11 hs11)
              obtain ⟨t0, t1, tf⟩ := blk2 HX10.out.row
              obtain ⟨s1, s2, sf⟩ := blk2 ((hx10.block sb hsbz).trans hM.out.row)
              clear y3 HPI HDA HX hB11 hs11
              go_wp2_with fail
              go_roundw
              case rel => exact ⟨k + 1, B7, v7, D7, d7, B10, v10, A, ac, im3, l3, all2, by omega, by go_num, rfl, by rw [HNA.out], HB11.out.1, HB11.out.2, HST3.out.1, HST3.out.2.1, HST3.out.2.2, HM10.out⟩
              case measure => simp [intOf]; omega
        · by_cases hk2 : r8 < 6
          · as_aux_lemma =>
              have hk18 : ¬ ka % 8 < 4 := by rw [HR8.out]; exact hk1
              have hk28 : ka % 8 < 6 := by rw [HR8.out]; exact hk2
              have hnz : n0 ≤ wo.heap.size := by omega
              obtain ⟨l3, hl3⟩ : ∃ q, l2 ++ [((10 + k : Int), (k : Int), ([] : List Wr))] = q := ⟨_, rfl⟩
              obtain ⟨ht0, _⟩ := hinv.out.take (by omega)
              have hi64 : I64 (10 + (k : Int)) ∧ I64 (k : Int) := by unfold I64; omega
              have HTK : Hid (Calls Tryz.prog 12 #[.agg #[.slice B im2.length vc, .slice D l2.length dc], .int .i64 (10 + (k : Int)), .int .i64 (k : Int)] wo (SnRdE (im2, l3) 0 wo)) := by
                have h := snTake_any B D vc dc im2.length l2.length im2 l2 (10 + (k : Int)) (k : Int) wo rfl rfl (hM.out.cur.more (fun g hg => hg.1.2)) (hM.out.its.more (fun g hg => hg.1.2)) hLM.out hi64
                have e : takeS (im2, l2) (10 + (k : Int)) (k : Int) = (im2, l3) := by unfold takeS; rw [if_pos ht0, ← hl3]
                rw [ht0, e] at h
                exact h.mono (fun _ _ h => h.rd)
              have HST3 : Hid (runT xs (k + 1) = (im2, l3, all2 ++ [((10 + k : Int), im2, (k : Int))]) ∧ RInv (k + 1) im2 l3 (all2 ++ [((10 + k : Int), im2, (k : Int))]) ∧ Cap l3) := by
                have hR : runS k (ka, vb, sc, cc, ff) (im2, l2, all2) = (im2, l3, all2 ++ [((10 + k : Int), im2, (k : Int))]) := by
                  rw [runS_take hk18 hk28, hl3]
                have e1 := HINV2.out
                have e2 := HCAP2.out
                rw [hR] at e1 e2
                exact ⟨by rw [hst2.out, hR], e1, e2⟩
              have HI64 := Lib.hid hi64
              clear hl3 ht0 hk18 hk28 hi64 HINV2 HCAP2
              obtain ⟨p0, p1, pf⟩ := blk2 hM.out.row
              obtain ⟨q0, q1, q2, q3, q4⟩ := HCX.out wo hB
              go_wp2_with fail
              refine HTK.out.mono ?_
              rintro e w5 ⟨B7, v7, D7, d7, rfl, ⟨m1, m2, m3⟩, ⟨m4, m5, m6⟩, hb5⟩
              have hX := XRow.mkAlloc (lo := wo.heap.size) (wc := wo) (Nat.le_refl _) hb5.size hb5 ⟨m1, m2, m4, m5⟩ m3 m6
              have HX := Lib.hid hX
              have HM6 := Lib.hid (hM.out.next0 (by omega) (by omega) HX.out)
              have hx5 : Below wo.heap.size wo (w5.alloc (.cells #[.slice B7 im2.length v7, .slice D7 l3.length d7] 26)) := hX.ext
              have hB6 := Lib.hid (((hB.trans (hx5.mono hnz)).setCell (p := ⟨sb, 0, none⟩) (by show n0 ≤ sb; omega) (.slice B7 im2.length v7)).setCell (p := ⟨sb, 1, none⟩) (by show n0 ≤ sb; omega) (.slice D7 l3.length d7))
              have hz5 := hb5.size
              obtain ⟨t0, t1, tf⟩ := blk2 HX.out.row
              obtain ⟨s1, s2, sf⟩ := blk2 ((hx5.block sb hsbz).trans hM.out.row)
              obtain ⟨W6, hW6⟩ : ∃ W6, ((w5.alloc (.cells #[.slice B7 im2.length v7, .slice D7 l3.length d7] 26)).setCell ⟨sb, 0, none⟩ (.slice B7 im2.length v7)).setCell ⟨sb, 1, none⟩ (.slice D7 l3.length d7) = W6 := ⟨_, rfl⟩
              rw [hW6] at HM6 hB6
              have hz6 : wo.heap.size ≤ W6.heap.size := by rw [← hW6]; simp [World.setCell]; omega
              have HW6 := Lib.hid hW6
              clear HTK hX m3 m6 hW6 hx5 hb5 p0 p1 pf
              go_upto_region 23 with (fail)
              rw [HW6.out]
              have hsb6 := HM6.out.lt.1
              clear t0 t1 tf s1 s2 sf
              have hO6 := HM6.out.own
              rw [HNA.out] at hO6
              have hO4 := Lib.hid (hO6.alloc (.cells #[.int .i64 (10 + (k : Int)), .slice Bi im2.length vi, .int .i64 (k : Int)] 61))
              have hO4o := Lib.hid hO4.out.1
              have hlo := Lib.hid hO6.lt
              have hIV := (HM6.out.below (ext_alloc (o := (.cells #[.int .i64 (10 + (k : Int)), .slice Bi im2.length vi, .int .i64 (k : Int)] 61)) (Below.refl _ _))).imv
              rw [HNA.out] at hIV
              have HRD : Hid (encK.rd (W6.alloc (.cells #[.int .i64 (10 + (k : Int)), .slice Bi im2.length vi, .int .i64 (k : Int)] 61)) (fun g => Nw W0.heap.size (W6.alloc (.cells #[.int .i64 (10 + (k : Int)), .slice Bi im2.length vi, .int .i64 (k : Int)] 61)).heap.size g ∧ ¬ (g = n0 ∨ g = sb) ∧ (Value.slice A na ac).ownBlock ≠ some g) [.int .i64 (10 + (k : Int)), .slice Bi im2.length vi, .int .i64 (k : Int)] ((10 + k : Int), im2, (k : Int))) := kpt_mk (x := ((10 + k : Int), im2, (k : Int))) HI64.out.1 HI64.out.2 HM6.out.cap.2.2.2.2.1 HM6.out.cap.2.2.2.2.2 hIV
              clear hO6 hIV
              go_wp2_with (at_builtin; refine Hid.out ?_)
              change wpList _ _ _ _ _ _
              refine wpList_app1 (E := encK) tyK rfl _ _ rfl rfl hO4o.out ((10 + k : Int), im2, (k : Int)) [.int .i64 (10 + (k : Int)), .slice Bi im2.length vi, .int .i64 (k : Int)] rfl HRD.out (heap_alloc_new _ _) (fun _ h => h.1.2) (by simp; omega) (by unfold maxLen; rw [HNA.out]; omega) (by rw [HNA.out]; omega) ?_
              intro A5 c5 w8 hown5 hg5 hat5
              rw [HNA.out] at hown5 hat5
              rw [HNA.out]
              have HM8 := Lib.hid (HM6.out.app HNA.out hown5 hg5 hat5)
              have hB8 := Lib.hid (((hB6.out.alloc (by omega) (.cells #[.int .i64 (10 + (k : Int)), .slice Bi im2.length vi, .int .i64 (k : Int)] 61)).grown hg5 (by simp; omega) (fun g h => by have := (hlo.out g h).1; omega)))
              have hz8 := Lib.hid HM8.out.lt.1
              clear hown5 hg5 hat5 hO4 hO4o HRD
              go_wp2
              go_roundw
              case rel => exact ⟨k + 1, B7, v7, D7, d7, Bi, vi, A5, c5, im2, l3, all2 ++ [((10 + k : Int), im2, (k : Int))], by omega, by go_num, rfl, by rw [List.length_append, HNA.out]; rfl, hB8.out, hz8.out, HST3.out.1, HST3.out.2.1, HST3.out.2.2, HM8.out⟩
              case measure => simp [intOf]; omega
          · by_cases hna : 0 < na
            · have hdi : (0 : Int) < na := by omega
              obtain rfl := HJ0.out hna
              have hjj := Lib.hid (hjj.out hna)
              by_cases hk6 : r8 = 6
              · as_aux_lemma =>
                  have hnz : n0 ≤ wo.heap.size := by omega
                  have hjl : jj < all2.length := by rw [← hjj.out, HNA.out]; exact stJ_lt hna
                  have hjn : jj < na := by rw [← HNA.out]; exact hjl
                  have hjz : (jj : Int) < na := by omega
                  have hj0 : (0 : Int) ≤ jj := by omega
                  obtain ⟨hac, hac2, _⟩ := hM.out.kept
                  rw [HNA.out] at hac
                  obtain ⟨ga, offa, Dk, ck, rfl, hga, ea, eb, ed, ee, ef⟩ := hM.out.keptImg hjl
                  obtain ⟨num, hnum⟩ : ∃ q, (all2[jj]'hjl).1 = q := ⟨_, rfl⟩
                  rw [hnum] at ea
                  obtain ⟨p0, p1, pf⟩ := blk2 hM.out.row
                  have HSX : Hid (∀ W, Below wo.heap.size wo W → (W.cell? ⟨sb, 0, none⟩ = some (.slice B im2.length vc) ∧ W.cell? ⟨sb, 1, none⟩ = some (.slice D l2.length dc)) ∧ W.cell? ⟨ga, offa + jj * 3, none⟩ = some (.int .i64 num)) := fun W hb => by
                    obtain ⟨p0, p1, _⟩ := blk2 ((hb.block sb hsbz).trans hM.out.row)
                    exact ⟨⟨p0, p1⟩, (World.cell?_of_block (a := ⟨ga, offa + jj * 3, none⟩) (hb.block ga hga.1.2)).trans ea⟩
                  have hbd : Below wo.heap.size wo wo.drew := (Below.refl _ _).drew
                  have hbz : Below wo.heap.size wo (wo.alloc (.cells #[.slice none 0 0, .slice none 0 0] 26)).drew := (ext_alloc (Below.refl _ _)).drew
                  have hs0 := HSX.out wo.drew hbd
                  have HGA := Lib.hid hga
                  clear hga p0 p1 pf ea
                  have hk28 : ¬ ka % 8 < 6 := by rw [HR8.out]; exact hk2
                  have hj2 : Hid (stJ (ka, vb, sc, cc, ff) all2.length = jj) := by rw [Hid, HNA.out]; exact hjj.out
                  have hn0a : ¬ all2.length = 0 := by rw [HNA.out]; omega
                  obtain ⟨q0, q1, q2, q3, q4⟩ := HCX.out wo hB
                  have hk68 : ka % 8 = 6 := by rw [HR8.out]; exact hk6
                  subst hk6
                  obtain ⟨l3, hl3⟩ : ∃ q, delL l2 jj = q := ⟨_, rfl⟩
                  obtain ⟨f1, f2, f3, f4⟩ := hinv.out.delete hjl
                  rw [hnum] at f1 f2
                  rw [hl3] at f3 f4
                  have HDL : Hid (∀ W, Below wo.heap.size wo W → Calls Tryz.prog 15 #[.agg #[.slice B im2.length vc, .slice D l2.length dc], .int .i64 num] W (SnRdE (im2, l3) 0 W)) := fun W hb => by
                    have h := snDelete_any B D vc dc im2.length l2.length im2 l2 num W rfl rfl ((hM.out.below hb).cur.more (fun g hg => hg.1.2)) ((hM.out.below hb).its.more (fun g hg => hg.1.2)) hLM.out (fun x hx => by have := hcap.out x hx; omega)
                    have e : sDelete (im2, l2) num = (im2, l3) := by unfold sDelete; rw [if_pos f1, f2, hl3]
                    rw [f1, e] at h
                    exact h.mono (fun _ _ h => h.rd)
                  have HST3 : Hid (runT xs (k + 1) = (im2, l3, all2.eraseIdx jj) ∧ RInv (k + 1) im2 l3 (all2.eraseIdx jj) ∧ Cap l3) := by
                    have hR : runS k (ka, vb, sc, cc, ff) (im2, l2, all2) = (im2, l3, all2.eraseIdx jj) := by
                      rw [runS_delete hk28 hn0a hk68 hj2.out, hl3]
                    have e1 := HINV2.out
                    have e2 := HCAP2.out
                    rw [hR] at e1 e2
                    exact ⟨by rw [hst2.out, hR], e1, e2⟩
                  obtain ⟨cx, hcx⟩ : ∃ q, Hid (sCost (im2, l3) = q) := ⟨_, Lib.hid rfl⟩
                  obtain ⟨cs, hcs⟩ : ∃ q, Hid (sCost (im2, l2) = q) := ⟨_, Lib.hid rfl⟩
                  rw [hcx.out, hcs.out] at f4
                  have hcc : ¬ (cs : Int) < (cx : Int) := by omega
                  have hcd : decide ((cs : Int) < (cx : Int)) = false := decide_eq_false hcc
                  clear hl3 f1 f2 f3 f4 hk28 hk68 hn0a HINV2 HCAP2 hst2
                  go_upto_region 25 with (fail)
                  go_cut [20, 21] (fun e f wx => ∃ (xb : Nat) (B7 : Option Addr) (v7 : Nat) (D7 : Option Addr) (d7 : Nat), e = .pointer (some ⟨xb, 0, none⟩) ∧ f = .int .i64 0 ∧ XRow wo.heap.size wo im2 l3 wx xb B7 v7 D7 d7)
                  case first =>
                    clear hinv hcap hM hst hlen2 HTT hok HINV HST3
                    go_region_held3 (fun W => (W.cell? ⟨sb, 0, none⟩ = some (.slice B im2.length vc) ∧ W.cell? ⟨sb, 1, none⟩ = some (.slice D l2.length dc)) ∧ W.cell? ⟨ga, offa + jj * 3, none⟩ = some (.int .i64 num)) (first | with_reducible exact hs0 | with_reducible exact HSX.out _ hbz | with_reducible exact HSX.out _ hx7 | with_reducible exact HSX.out _ ((hx7.setCell (p := ⟨_, 0, none⟩) hzb _).setCell (p := ⟨_, 1, none⟩) hzb _) | with_reducible exact HSX.out _ (ext_alloc hx7) | go_keep) (first | (go_at_call 15; (with_reducible refine Calls.at_w (wo.alloc (.cells #[.slice none 0 0, .slice none 0 0] 26)).drew ?_); refine (HDL.out (wo.alloc (.cells #[.slice none 0 0, .slice none 0 0] 26)).drew hbz).mono ?_; rintro e w7 ⟨B7, v7, D7, d7, rfl, ⟨m1, m2, m3⟩, ⟨m4, m5, m6⟩, hb7⟩; have hx7 : Below wo.heap.size wo w7 := ext_trans hbz hb7; have hzb : wo.heap.size ≤ wo.heap.size := Nat.le_refl _; have hzr : w7.heap[wo.heap.size]? = some (.cells #[.slice none 0 0, .slice none 0 0] 26 (0, 0)) := (hb7.block wo.heap.size (by simp)).trans (heap_alloc_new wo (.cells #[.slice none 0 0, .slice none 0 0] 26)); obtain ⟨t0, t1, tf⟩ := blk2 hzr) | (go_at_call 15; (with_reducible refine Calls.at_w wo.drew ?_); refine (HDL.out wo.drew hbd).mono ?_; rintro e w7 ⟨B7, v7, D7, d7, rfl, ⟨m1, m2, m3⟩, ⟨m4, m5, m6⟩, hb7⟩; have hx7 : Below wo.heap.size wo w7 := ext_trans hbd hb7))
                    · go_wp2
                      go_meet
                      exact ⟨_, B7, v7, D7, d7, rfl, rfl, XRow.mkAlloc (wc := wo.drew) hbd.size hb7.size hx7 ⟨m1, m2, m4, m5⟩ m3 m6⟩
                    · go_wp2
                      go_meet
                      exact ⟨_, B7, v7, D7, d7, rfl, rfl, XRow.mkSet (wc := (wo.alloc (.cells #[.slice none 0 0, .slice none 0 0] 26)).drew) hbz.size hzr hzb (by simp) hx7 ⟨m1, m2, m4, m5⟩ m3 m6⟩
                  case rest =>
                    obtain ⟨wq, rfl⟩ : ∃ wq : World, wq = wc := ⟨_, rfl⟩
                    obtain ⟨xb, B7, v7, D7, d7, rfl, rfl, hX⟩ := hcut
                    have HX := Lib.hid hX
                    have hxc := hX.ext
                    have hzc := hxc.size
                    have HCS : Hid (∀ W, Below wq.heap.size wq W → (W.cell? ⟨sb, 0, none⟩ = some (.slice B im2.length vc) ∧ W.cell? ⟨sb, 1, none⟩ = some (.slice D l2.length dc)) ∧ W.cell? ⟨xb, 0, none⟩ = some (.slice B7 im2.length v7) ∧ W.cell? ⟨xb, 1, none⟩ = some (.slice D7 l3.length d7)) := fun W hb => by
                      obtain ⟨p0, p1, _⟩ := blk2 (((ext_trans hxc hb).block sb hsbz).trans hM.out.row)
                      obtain ⟨t0, t1, _⟩ := blk2 ((HX.out.fwd hzc hb).row)
                      exact ⟨⟨p0, p1⟩, t0, t1⟩
                    have hL3 : SnLim im2 l3 := HST3.out.2.1.lim (by omega) HST3.out.2.2
                    have HC1 : Hid (∀ W, Below wq.heap.size wq W → Calls Tryz.prog 33 #[.agg #[.slice B7 im2.length v7, .slice D7 l3.length d7]] W fun e w' => e = .returned (.int .i64 cx) ∧ Below W.heap.size W w') := fun W hb => by
                      have h := snCost_any B7 D7 v7 d7 im2.length l3.length im2 l3 W rfl rfl ((HX.out.fwd hzc hb).cur.more (fun g hg => hg.2)) ((HX.out.fwd hzc hb).its.more (fun g hg => hg.2)) hL3
                      rw [hcx.out] at h
                      exact h
                    have HC2 : Hid (∀ W, Below wq.heap.size wq W → Calls Tryz.prog 33 #[.agg #[.slice B im2.length vc, .slice D l2.length dc]] W fun e w' => e = .returned (.int .i64 cs) ∧ Below W.heap.size W w') := fun W hb => by
                      have h := snCost_any B D vc dc im2.length l2.length im2 l2 W rfl rfl ((hM.out.below (ext_trans hxc hb)).cur.more (fun g hg => hg.1.2)) ((hM.out.below (ext_trans hxc hb)).its.more (fun g hg => hg.1.2)) hLM.out
                      rw [hcs.out] at h
                      exact h
                    clear hX HDL hL3
                    go_upto_region 26 with (fail)
                    have hbdc : Below wq.heap.size wq wq.drew := (Below.refl _ _).drew
                    have hs2 := HCS.out wq.drew hbdc
                    go_cut [163] (fun e wx => e = .bool false ∧ Below wq.heap.size wq wx)
                    case first =>
                      clear HST3 hinv hcap hM hst HX HCX HSX H0 hLM
                      go_region_held3 (fun W => (W.cell? ⟨sb, 0, none⟩ = some (.slice B im2.length vc) ∧ W.cell? ⟨sb, 1, none⟩ = some (.slice D l2.length dc)) ∧ W.cell? ⟨xb, 0, none⟩ = some (.slice B7 im2.length v7) ∧ W.cell? ⟨xb, 1, none⟩ = some (.slice D7 l3.length d7)) (first | with_reducible exact hs2 | with_reducible exact HCS.out _ hx9 | with_reducible exact HCS.out _ hx8 | go_keep) (first | (go_at_call 33; refine (HC2.out w8 hx8).mono ?_; rintro e w9 ⟨rfl, hb9⟩; have hx9 : Below wq.heap.size wq w9 := ext_trans hx8 hb9) | (go_at_call 33; refine (HC1.out wq.drew hbdc).mono ?_; rintro e w8 ⟨rfl, hb8⟩; have hx8 : Below wq.heap.size wq w8 := ext_trans hbdc hb8))
                      all_goals
                        go_wp2
                        go_meet
                        exact ⟨by rw [show decide (cs < cx) = false from decide_eq_false (by omega)], hx9⟩
                    case rest =>
                      obtain ⟨rfl, hx9⟩ := hcut
                      have hw9 : Below wo.heap.size wo wc := ext_trans hxc hx9
                      have hx9z := hw9.size
                      have HX9 := Lib.hid (HX.out.fwd hzc hx9)
                      have HM6 := Lib.hid (hM.out.next0 (by omega) (by omega) HX9.out)
                      have hB6 := Lib.hid (((hB.trans (hw9.mono hnz)).setCell (p := ⟨sb, 0, none⟩) (by show n0 ≤ sb; omega) (.slice B7 im2.length v7)).setCell (p := ⟨sb, 1, none⟩) (by show n0 ≤ sb; omega) (.slice D7 l3.length d7))
                      obtain ⟨t0, t1, tf⟩ := blk2 HX9.out.row
                      obtain ⟨s1, s2, sf⟩ := blk2 ((hw9.block sb hsbz).trans hM.out.row)
                      obtain ⟨W6, hW6⟩ : ∃ W6, (wc.setCell ⟨sb, 0, none⟩ (.slice B7 im2.length v7)).setCell ⟨sb, 1, none⟩ (.slice D7 l3.length d7) = W6 := ⟨_, rfl⟩
                      rw [hW6] at HM6 hB6
                      have hz6 : wo.heap.size ≤ W6.heap.size := by rw [← hW6]; simp [World.setCell]; omega
                      have HW6 := Lib.hid hW6
                      clear hW6 HX9 HC1 HC2
                      go_upto_region 29 with (fail)
                      rw [HW6.out]
                      have hsb6 := HM6.out.lt.1
                      clear t0 t1 tf s1 s2 sf HCS
                      obtain ⟨_, _, hk6⟩ := HM6.out.kept
                      have hjc : (jj : Int) ≤ ac := by omega
                      have hj1 : (jj : Int) + 1 ≤ na := by omega
                      have hj1n : (0 : Int) ≤ (jj : Int) + 1 := by omega
                      have hnac : (na : Int) ≤ ac := by omega
                      have hj2z : (jj : Int) + 1 ≤ ac := by omega
                      have hwj : IntKind.i64.wrap ((jj : Int) + 1) = (jj : Int) + 1 := IntWalk.i64_in _ (by omega)
                      have hnp : ¬ na < jj + 1 := by omega
                      have hnp1 : jj + 1 ≤ na := hjn
                      have hac1 : na ≤ ac := hac
                      have hac3 : jj ≤ ac := by omega
                      have HS6 := Lib.hid (hk6 : SlAt encK W6 (fun g => Nw W0.heap.size W6.heap.size g ∧ ¬ (g = n0 ∨ g = sb)) (some ⟨ga, offa, none⟩) all2)
                      have HO1 : Hid (Own encK (W6.alloc (.cells #[] 61)).drew W6.heap.size 61 (fun g => Nw W0.heap.size W6.heap.size g ∧ ¬ (g = n0 ∨ g = sb)) (.slice (some ⟨W6.heap.size, 0, none⟩) 0 0) []) := Own.blk (Own.make0 (E := encK) (w := W6) (cur := #[]) (cap := 0) (Nat.le_refl _) (by simp) rfl (fun h => Nat.lt_irrefl _ h.1.2)) (fun _ _ => rfl)
                      have HS1 : Hid (SlAt encK (W6.alloc (.cells #[] 61)).drew (fun g => Nw W0.heap.size W6.heap.size g ∧ ¬ (g = n0 ∨ g = sb)) (some ⟨ga, offa, none⟩) (all2.take jj)) := (HS6.out.take).blk (fun b hb => Below.heap_alloc _ _ _ hb.1.2)
                      have HM1 : Hid (jj = (all2.take jj).length) := by rw [Hid, List.length_take]; omega
                      have HM2 : Hid (na - (jj + 1) = (all2.drop (jj + 1)).length) := by rw [Hid, List.length_drop, HNA.out]
                      have hzE : W6.heap.size ≤ (W6.alloc (.cells #[] 61)).drew.heap.size := by simp [World.drew]
                      have hna25 : na ≤ 25 := by omega
                      by_cases hcap2 : ac = jj + 1
                      · have HP2 : Hid (SlAt encK W6 (fun g => Nw W0.heap.size W6.heap.size g ∧ ¬ (g = n0 ∨ g = sb)) (some ⟨ga, offa, none⟩) (all2.drop (jj + 1))) := by
                          rw [Hid, show all2.drop (jj + 1) = [] from List.drop_eq_nil_of_le (by rw [HNA.out]; omega)]
                          exact SlAt.nil_
                        subst hcap2
                        obtain rfl : na = jj + 1 := by omega
                        have hjc9 : (jj : Int) ≤ (jj : Int) + 1 := by omega
                        have hjn9 : jj ≤ jj + 1 := by omega
                        have HM2 : Hid (0 = (all2.drop (jj + 1)).length) := by rw [Hid, List.length_drop, HNA.out]; omega
                        go_region_held3 (fun _ => True) (first | trivial) (first | (refine step_appAll (E := encK) tyK rfl _ _ rfl rfl hown2.out rfl HM2.out HS2.out (fun _ h => Nat.lt_of_lt_of_le h.1.2 hz2) hz2 (by have h := HM1.out; rw [List.nil_append, ← h]; unfold maxLen; omega) (by have h := HM1.out; rw [List.nil_append, ← h]; omega) ?_; intro A3 c3 w3 hown3 hg3 hat3; obtain ⟨n3, hn3⟩ : ∃ n3, (([] : List Kpt) ++ all2.take jj).length + 0 = n3 := ⟨_, rfl⟩; rw [hn3] at hown3; rw [hn3]; have HN3 := Lib.hid hn3; have hown3h := Lib.hid hown3; have hb3 : Below W6.heap.size W6 w3 := hbE.grown hg3 hz2 (fun g h => (hown2.out.lt g h).1); clear hn3 hown3 hat3) | (refine step_appAll (E := encK) tyK rfl _ _ rfl rfl HO1.out rfl HM1.out HS1.out (fun _ h => Nat.lt_of_lt_of_le h.1.2 hzE) hzE (by rw [List.length_nil]; unfold maxLen; omega) (by rw [List.length_nil]; omega) ?_; intro A2 c2 w2 hown2' hg2 hat2; obtain ⟨n2, hn2⟩ : ∃ n2, ([] : List Kpt).length + jj = n2 := ⟨_, rfl⟩; rw [hn2] at hown2'; rw [hn2]; have hown2 := Lib.hid hown2'; have hbE : Below W6.heap.size W6 w2 := ((ext_alloc (Below.refl _ _)).drew).grown hg2 hzE (fun g h => Nat.le_of_eq (Option.some.inj h)); clear hown2' hn2 hat2; have hz2 : W6.heap.size ≤ w2.heap.size := Nat.le_trans hzE hg2.size; have HS2 := Lib.hid (HP2.out.blk (w' := w2) (fun b hb => (hg2.block b (Nat.lt_of_lt_of_le hb.1.2 hzE) (fun e => Nat.lt_irrefl _ (Nat.lt_of_lt_of_le hb.1.2 (Nat.le_of_eq (Option.some.inj (show some W6.heap.size = some b from e.symm)))))).trans (Below.heap_alloc _ _ _ hb.1.2)))))
                        all_goals
                          have HN8 : Hid ((all2.eraseIdx jj).length = n3) := by rw [Hid, eraseIdx_eq, ← HN3.out, List.nil_append, List.length_append, ← HM2.out]
                          have hown4 := hown3h.out
                          rw [List.nil_append, ← eraseIdx_eq] at hown4
                          have HM8 := Lib.hid (HM6.out.fresh (by omega) hb3 HN8.out hown4)
                          have hz8 := Lib.hid HM8.out.lt.1
                          have hB8 := Lib.hid (hB6.out.trans (hb3.mono (by omega)))
                          clear hown4 hown3h hb3 hg3
                          go_wp2
                          go_roundw
                          case rel => exact ⟨k + 1, B7, v7, D7, d7, Bi, vi, A3, c3, im2, l3, all2.eraseIdx jj, by omega, by go_num, rfl, by rw [HN8.out], hB8.out, hz8.out, HST3.out.1, HST3.out.2.1, HST3.out.2.2, HM8.out⟩
                          case measure => simp [intOf]; omega
                      · have HP2 : Hid (SlAt encK W6 (fun g => Nw W0.heap.size W6.heap.size g ∧ ¬ (g = n0 ∨ g = sb)) (some ⟨ga, offa + (jj + 1) * 3, none⟩) (all2.drop (jj + 1))) := SlAt.drop (k := jj + 1) (E := encK) HS6.out
                        go_region_held3 (fun _ => True) (first | trivial) (first | (refine step_appAll (E := encK) tyK rfl _ _ rfl rfl hown2.out rfl HM2.out HS2.out (fun _ h => Nat.lt_of_lt_of_le h.1.2 hz2) hz2 (by have h := HM1.out; rw [List.nil_append, ← h]; unfold maxLen; omega) (by have h := HM1.out; rw [List.nil_append, ← h]; omega) ?_; intro A3 c3 w3 hown3 hg3 hat3; obtain ⟨n3, hn3⟩ : ∃ n3, (([] : List Kpt) ++ all2.take jj).length + (na - (jj + 1)) = n3 := ⟨_, rfl⟩; rw [hn3] at hown3; rw [hn3]; have HN3 := Lib.hid hn3; have hown3h := Lib.hid hown3; have hb3 : Below W6.heap.size W6 w3 := hbE.grown hg3 hz2 (fun g h => (hown2.out.lt g h).1); clear hn3 hown3 hat3) | (refine step_appAll (E := encK) tyK rfl _ _ rfl rfl HO1.out rfl HM1.out HS1.out (fun _ h => Nat.lt_of_lt_of_le h.1.2 hzE) hzE (by rw [List.length_nil]; unfold maxLen; omega) (by rw [List.length_nil]; omega) ?_; intro A2 c2 w2 hown2' hg2 hat2; obtain ⟨n2, hn2⟩ : ∃ n2, ([] : List Kpt).length + jj = n2 := ⟨_, rfl⟩; rw [hn2] at hown2'; rw [hn2]; have hown2 := Lib.hid hown2'; have hbE : Below W6.heap.size W6 w2 := ((ext_alloc (Below.refl _ _)).drew).grown hg2 hzE (fun g h => Nat.le_of_eq (Option.some.inj h)); clear hown2' hn2 hat2; have hz2 : W6.heap.size ≤ w2.heap.size := Nat.le_trans hzE hg2.size; have HS2 := Lib.hid (HP2.out.blk (w' := w2) (fun b hb => (hg2.block b (Nat.lt_of_lt_of_le hb.1.2 hzE) (fun e => Nat.lt_irrefl _ (Nat.lt_of_lt_of_le hb.1.2 (Nat.le_of_eq (Option.some.inj (show some W6.heap.size = some b from e.symm)))))).trans (Below.heap_alloc _ _ _ hb.1.2)))))
                        all_goals
                          have HN8 : Hid ((all2.eraseIdx jj).length = n3) := by rw [Hid, eraseIdx_eq, ← HN3.out, List.nil_append, List.length_append, ← HM2.out]
                          have hown4 := hown3h.out
                          rw [List.nil_append, ← eraseIdx_eq] at hown4
                          have HM8 := Lib.hid (HM6.out.fresh (by omega) hb3 HN8.out hown4)
                          have hz8 := Lib.hid HM8.out.lt.1
                          have hB8 := Lib.hid (hB6.out.trans (hb3.mono (by omega)))
                          clear hown4 hown3h hb3 hg3
                          go_wp2
                          go_roundw
                          case rel => exact ⟨k + 1, B7, v7, D7, d7, Bi, vi, A3, c3, im2, l3, all2.eraseIdx jj, by omega, by go_num, rfl, by rw [HN8.out], hB8.out, hz8.out, HST3.out.1, HST3.out.2.1, HST3.out.2.2, HM8.out⟩
                          case measure => simp [intOf]; omega
              · as_aux_lemma =>
                  have hnz : n0 ≤ wo.heap.size := by omega
                  have hjl : jj < all2.length := by rw [← hjj.out, HNA.out]; exact stJ_lt hna
                  have hjn : jj < na := by rw [← HNA.out]; exact hjl
                  have hjz : (jj : Int) < na := by omega
                  have hj0 : (0 : Int) ≤ jj := by omega
                  obtain ⟨hac, hac2, _⟩ := hM.out.kept
                  rw [HNA.out] at hac
                  obtain ⟨ga, offa, Dk, ck, rfl, hga, ea, eb, ed, ee, ef⟩ := hM.out.keptImg hjl
                  obtain ⟨num, hnum⟩ : ∃ q, (all2[jj]'hjl).1 = q := ⟨_, rfl⟩
                  rw [hnum] at ea
                  obtain ⟨p0, p1, pf⟩ := blk2 hM.out.row
                  have HSX : Hid (∀ W, Below wo.heap.size wo W → (W.cell? ⟨sb, 0, none⟩ = some (.slice B im2.length vc) ∧ W.cell? ⟨sb, 1, none⟩ = some (.slice D l2.length dc)) ∧ W.cell? ⟨ga, offa + jj * 3, none⟩ = some (.int .i64 num)) := fun W hb => by
                    obtain ⟨p0, p1, _⟩ := blk2 ((hb.block sb hsbz).trans hM.out.row)
                    exact ⟨⟨p0, p1⟩, (World.cell?_of_block (a := ⟨ga, offa + jj * 3, none⟩) (hb.block ga hga.1.2)).trans ea⟩
                  have hbd : Below wo.heap.size wo wo.drew := (Below.refl _ _).drew
                  have hbz : Below wo.heap.size wo (wo.alloc (.cells #[.slice none 0 0, .slice none 0 0] 26)).drew := (ext_alloc (Below.refl _ _)).drew
                  have hs0 := HSX.out wo.drew hbd
                  have HGA := Lib.hid hga
                  clear hga p0 p1 pf ea
                  have hk28 : ¬ ka % 8 < 6 := by rw [HR8.out]; exact hk2
                  have hj2 : Hid (stJ (ka, vb, sc, cc, ff) all2.length = jj) := by rw [Hid, HNA.out]; exact hjj.out
                  have hn0a : ¬ all2.length = 0 := by rw [HNA.out]; omega
                  obtain ⟨q0, q1, q2, q3, q4⟩ := HCX.out wo hB
                  have hk68 : ¬ ka % 8 = 6 := by rw [HR8.out]; exact hk6
                  have hk6b : (r8 == 6) = false := by simp [hk6]
                  obtain ⟨im3, him3⟩ : ∃ q, (all2[jj]'hjl).2.1 = q := ⟨_, rfl⟩
                  obtain ⟨l3, hl3⟩ : ∃ q, setLast (l2.take (jj + 1)) (fun _ => []) = q := ⟨_, rfl⟩
                  obtain ⟨f1, f2, f3, _⟩ := hinv.out.revert hjl
                  rw [hnum] at f1 f2
                  rw [him3] at f3 eb ed ee
                  have HED := Lib.hid ed
                  have HDL : Hid (∀ W, Below wo.heap.size wo W → Calls Tryz.prog 17 #[.agg #[.slice B im2.length vc, .slice D l2.length dc], .int .i64 num] W (SnRdE (im3, l3) 0 W)) := fun W hb => by
                    have h := snRevert_any B D vc dc im2.length l2.length im2 l2 num W rfl rfl ((hM.out.below hb).cur.more (fun g hg => hg.1.2)) ((hM.out.below hb).its.more (fun g hg => hg.1.2)) hLM.out hM.out.cap.2.2.1
                    have e : sRevert (im2, l2) num = (im3, l3) := by unfold sRevert; rw [if_pos f1, f2, hl3]; rw [f3]
                    rw [f1, e] at h
                    exact h
                  have HST3 : Hid (runT xs (k + 1) = (im3, l3, all2.take (jj + 1)) ∧ RInv (k + 1) im3 l3 (all2.take (jj + 1)) ∧ Cap l3) := by
                    have hR : runS k (ka, vb, sc, cc, ff) (im2, l2, all2) = (im3, l3, all2.take (jj + 1)) := by
                      rw [runS_revert hk28 hn0a hk68 hj2.out hjl, hl3, him3]
                    have e1 := HINV2.out
                    have e2 := HCAP2.out
                    rw [hR] at e1 e2
                    exact ⟨by rw [hst2.out, hR], e1, e2⟩
                  clear hl3 him3 f1 f2 f3 hk28 hk68 hn0a HINV2 HCAP2 hst2 ed
                  go_upto_region 31 with (fail)
                  go_cut [22, 23] (fun e f wx => ∃ (xb : Nat) (B7 : Option Addr) (v7 : Nat) (D7 : Option Addr) (d7 : Nat), e = .pointer (some ⟨xb, 0, none⟩) ∧ f = .int .i64 0 ∧ XRow wo.heap.size wo im3 l3 wx xb B7 v7 D7 d7)
                  case first =>
                    clear hinv hcap hM hst hlen2 HTT hok HINV HST3
                    go_region_held3 (fun W => (W.cell? ⟨sb, 0, none⟩ = some (.slice B im2.length vc) ∧ W.cell? ⟨sb, 1, none⟩ = some (.slice D l2.length dc)) ∧ W.cell? ⟨ga, offa + jj * 3, none⟩ = some (.int .i64 num)) (first | with_reducible exact hs0 | with_reducible exact HSX.out _ hbz | with_reducible exact HSX.out _ hx7 | with_reducible exact HSX.out _ ((hx7.setCell (p := ⟨_, 0, none⟩) hzb _).setCell (p := ⟨_, 1, none⟩) hzb _) | with_reducible exact HSX.out _ (ext_alloc hx7) | go_keep) (first | (go_at_call 17; (with_reducible refine Calls.at_w (wo.alloc (.cells #[.slice none 0 0, .slice none 0 0] 26)).drew ?_); refine (HDL.out (wo.alloc (.cells #[.slice none 0 0, .slice none 0 0] 26)).drew hbz).mono ?_; rintro e w7 ⟨B7, v7, D7, d7, rfl, ⟨m1, m2, m3⟩, ⟨m4, m5, m6⟩, hb7⟩; have hx7 : Below wo.heap.size wo w7 := ext_trans hbz hb7; have hzb : wo.heap.size ≤ wo.heap.size := Nat.le_refl _; have hzr : w7.heap[wo.heap.size]? = some (.cells #[.slice none 0 0, .slice none 0 0] 26 (0, 0)) := (hb7.block wo.heap.size (by simp)).trans (heap_alloc_new wo (.cells #[.slice none 0 0, .slice none 0 0] 26)); obtain ⟨t0, t1, tf⟩ := blk2 hzr) | (go_at_call 17; (with_reducible refine Calls.at_w wo.drew ?_); refine (HDL.out wo.drew hbd).mono ?_; rintro e w7 ⟨B7, v7, D7, d7, rfl, ⟨m1, m2, m3⟩, ⟨m4, m5, m6⟩, hb7⟩; have hx7 : Below wo.heap.size wo w7 := ext_trans hbd hb7))
                    · go_wp2
                      go_meet
                      exact ⟨_, B7, v7, D7, d7, rfl, rfl, XRow.mkAlloc (wc := wo.drew) hbd.size hb7.size hx7 ⟨m1, m2, m4, m5⟩ m3 m6⟩
                    · go_wp2
                      go_meet
                      exact ⟨_, B7, v7, D7, d7, rfl, rfl, XRow.mkSet (wc := (wo.alloc (.cells #[.slice none 0 0, .slice none 0 0] 26)).drew) hbz.size hzr hzb (by simp) hx7 ⟨m1, m2, m4, m5⟩ m3 m6⟩
                  case rest =>
                    obtain ⟨xb, B7, v7, D7, d7, rfl, rfl, hX⟩ := hcut
                    have HX := Lib.hid hX
                    have hxc := hX.ext
                    have hzc := hxc.size
                    obtain ⟨t0, t1, tf⟩ := blk2 hX.row
                    obtain ⟨s1, s2, sf⟩ := blk2 ((hxc.block sb hsbz).trans hM.out.row)
                    have eb2 : wc.cell? ⟨ga, offa + jj * 3 + 1, none⟩ = some (.slice Dk im3.length ck) := (World.cell?_of_block (a := ⟨ga, offa + jj * 3 + 1, none⟩) (hxc.block ga HGA.out.1.2)).trans eb
                    have HM5 := Lib.hid ((hM.out.nextOld (by omega) (by omega) HX.out HED.out ⟨ee, ef⟩).below ((Below.refl _ _).drew))
                    have hB5 := Lib.hid (((hB.trans (hxc.mono hnz)).setCell (p := ⟨sb, 0, none⟩) (by show n0 ≤ sb; omega) (.slice B7 im3.length v7)).setCell (p := ⟨sb, 1, none⟩) (by show n0 ≤ sb; omega) (.slice D7 l3.length d7)).drew
                    have hgs : ga ≠ sb := fun e => HGA.out.2 (Or.inr e)
                    have ebs : (((wc.setCell ⟨sb, 0, none⟩ (.slice B7 im3.length v7)).setCell ⟨sb, 1, none⟩ (.slice D7 l3.length d7)).drew).cell? ⟨ga, offa + jj * 3 + 1, none⟩ = some (.slice Dk im3.length ck) := (World.cell?_of_block (w := wc) (a := ⟨ga, offa + jj * 3 + 1, none⟩) ((heap_setCell_other _ ⟨sb, 1, none⟩ ga _ hgs).trans (heap_setCell_other _ ⟨sb, 0, none⟩ ga _ hgs))).trans eb2
                    clear hX HDL eb
                    go_upto_region 34 with (fail)
                    go_region
                    obtain ⟨W6, hW6⟩ : ∃ W6, ((wc.setCell ⟨sb, 0, none⟩ (.slice B7 im3.length v7)).setCell ⟨sb, 1, none⟩ (.slice D7 l3.length d7)).drew = W6 := ⟨_, rfl⟩
                    rw [hW6] at HM5 hB5 ⊢
                    have hz6 : wo.heap.size ≤ W6.heap.size := by rw [← hW6]; simp [World.setCell, World.drew]; omega
                    clear hW6 t0 t1 tf s1 s2 sf eb2 ebs HX
                    have hsb6 := HM5.out.lt.1
                    obtain ⟨_, _, hk6⟩ := HM5.out.kept
                    have hj1 : (jj : Int) + 1 ≤ na := by omega
                    have hj1n : (0 : Int) ≤ (jj : Int) + 1 := by omega
                    have hj2z : (jj : Int) + 1 ≤ ac := by omega
                    have hwj : IntKind.i64.wrap ((jj : Int) + 1) = (jj : Int) + 1 := IntWalk.i64_in _ (by omega)
                    have hnp1 : jj + 1 ≤ na := hjn
                    have hac3 : jj + 1 ≤ ac := by omega
                    have HS6 := Lib.hid (hk6 : SlAt encK W6 (fun g => Nw W0.heap.size W6.heap.size g ∧ ¬ (g = n0 ∨ g = sb)) (some ⟨ga, offa, none⟩) all2)
                    have HO1 : Hid (Own encK (W6.alloc (.cells #[] 61)) W6.heap.size 61 (fun g => Nw W0.heap.size W6.heap.size g ∧ ¬ (g = n0 ∨ g = sb)) (.slice (some ⟨W6.heap.size, 0, none⟩) 0 0) []) := Own.make0 (E := encK) (w := W6) (cur := #[]) (cap := 0) (Nat.le_refl _) (by simp) rfl (fun h => Nat.lt_irrefl _ h.1.2)
                    have HS1 : Hid (SlAt encK (W6.alloc (.cells #[] 61)) (fun g => Nw W0.heap.size W6.heap.size g ∧ ¬ (g = n0 ∨ g = sb)) (some ⟨ga, offa, none⟩) (all2.take (jj + 1))) := (HS6.out.take).blk (fun b hb => Below.heap_alloc _ _ _ hb.1.2)
                    have HM1 : Hid (jj + 1 = (all2.take (jj + 1)).length) := by rw [Hid, List.length_take, HNA.out]; omega
                    have hzE : W6.heap.size ≤ (W6.alloc (.cells #[] 61)).heap.size := by simp
                    have hna25 : na ≤ 25 := by omega
                    clear hk6
                    go_wp2_with (at_builtin; refine Hid.out ?_)
                    change wpList _ _ _ _ _ _
                    refine wpList_appAll (E := encK) tyK rfl _ _ rfl rfl HO1.out rfl HM1.out HS1.out (fun _ h => Nat.lt_of_lt_of_le h.1.2 hzE) hzE (by rw [List.length_nil]; unfold maxLen; omega) (by rw [List.length_nil]; omega) ?_
                    intro A3 c3 w3 hown3 hg3 hat3
                    obtain ⟨n3, hn3⟩ : ∃ n3, ([] : List Kpt).length + (jj + 1) = n3 := ⟨_, rfl⟩
                    rw [hn3] at hown3
                    rw [hn3]
                    have HN8 : Hid ((all2.take (jj + 1)).length = n3) := by rw [Hid, ← HM1.out, ← hn3]; simp
                    have hb3 : Below W6.heap.size W6 w3 := (ext_alloc (Below.refl _ _)).grown hg3 hzE (fun g h => Nat.le_of_eq (Option.some.inj h))
                    have HM8 := Lib.hid (HM5.out.fresh (by omega) hb3 HN8.out (by rw [List.nil_append] at hown3; exact hown3))
                    have hz8 := Lib.hid HM8.out.lt.1
                    have hB8 := Lib.hid (hB5.out.trans (hb3.mono (by omega)))
                    clear hown3 hb3 hg3 hat3 hn3
                    go_wp2
                    go_roundw
                    case rel => exact ⟨k + 1, B7, v7, D7, d7, Dk, ck, A3, c3, im3, l3, all2.take (jj + 1), by omega, by go_num, rfl, by rw [HN8.out], hB8.out, hz8.out, HST3.out.1, HST3.out.2.1, HST3.out.2.2, HM8.out⟩
                    case measure => simp [intOf]; omega
            · have hdi : ¬ (0 : Int) < na := by omega
              as_aux_lemma =>
                have HST3 : Hid (runT xs (k + 1) = (im2, l2, all2) ∧ RInv (k + 1) im2 l2 all2 ∧ Cap l2) := by
                  have hR : runS k (ka, vb, sc, cc, ff) (im2, l2, all2) = (im2, l2, all2) := by
                    rw [runS_none (show ¬ ka % 8 < 4 by rw [HR8.out]; exact hk1) (show ¬ ka % 8 < 6 by rw [HR8.out]; exact hk2) (by rw [HNA.out]; omega)]
                  have e1 := HINV2.out
                  have e2 := HCAP2.out
                  rw [hR] at e1 e2
                  exact ⟨by rw [hst2.out, hR], e1, e2⟩
                obtain ⟨q0, q1, q2, q3, q4⟩ := HCX.out wo hB
                clear HINV2 HCAP2
                go_wp2_with fail
                go_roundw
                case rel => exact ⟨k + 1, B, vc, D, dc, Bi, vi, A, ac, im2, l2, all2, by omega, by go_num, rfl, by rw [HNA.out], hB, hsbz, HST3.out.1, HST3.out.2.1, HST3.out.2.2, hM.out⟩
                case measure => simp [intOf]; omega
    · have hkk : k = xs.length := by omega
      subst hkk
      have hq := hst.out.symm.trans HTT.out
      simp only [Prod.mk.injEq] at hq
      obtain ⟨rfl, rfl, rfl⟩ := hq
      have hng : ¬ (xs.length : Int) < xs.length := by omega
      have hrs := hM.out.res
      have hn0s : n0 < wo.heap.size := by omega
      have hsz3 : ((wo.setCell ⟨n0, 0, none⟩ (.slice B im2.length vc)).setCell ⟨n0, 1, none⟩ (.slice D l2.length dc)).heap.size = wo.heap.size := by simp [World.setCell]
      have hW3 := blk2_set hrs (.slice B im2.length vc) (.slice D l2.length dc)
      have hN : ∀ g, Nw W0.heap.size wo.heap.size g → Nw w.heap.size ((wo.setCell ⟨n0, 0, none⟩ (.slice B im2.length vc)).setCell ⟨n0, 1, none⟩ (.slice D l2.length dc)).heap.size g := fun g hg => ⟨by have := hg.1; omega, by rw [hsz3]; exact hg.2⟩
      have k1 := (hM.out.cur.set2 (b := n0) (fun g hg e => hg.2.1 (Or.inl e)) (.slice B im2.length vc) (.slice D l2.length dc)).more (fun g hg => hN g hg.1)
      have k2 := (hM.out.its.set2 (b := n0) (fun g hg e => hg.2.1 (Or.inl e)) (.slice B im2.length vc) (.slice D l2.length dc)).more (fun g hg => hN g hg.1)
      have k3 := (hM.out.kept.2.2.set2 (b := n0) (fun g hg e => hg.2 (Or.inl e)) (.slice B im2.length vc) (.slice D l2.length dc)).more (fun g hg => hN g hg.1)
      have k4 := (hM.out.imv.set2 (b := n0) (fun g hg e => hg.2.1 (Or.inl e)) (.slice B im2.length vc) (.slice D l2.length dc)).more (fun g hg => hN g hg.1)
      have hbW : Below n0 w ((wo.setCell ⟨n0, 0, none⟩ (.slice B im2.length vc)).setCell ⟨n0, 1, none⟩ (.slice D l2.length dc)) := (hB.setCell (p := ⟨n0, 0, none⟩) (Nat.le_refl n0) _).setCell (p := ⟨n0, 1, none⟩) (Nat.le_refl n0) _
      have HW3 := Lib.hid (And.intro hW3 (And.intro k1 (And.intro k2 (And.intro k3 (And.intro k4 hbW)))))
      have hcp := hM.out.cap
      have hka := And.intro hM.out.kept.1 hM.out.kept.2.1
      have HCP := Lib.hid (And.intro hcp hka)
      obtain ⟨p0, p1, pf⟩ := blk2 hM.out.row
      obtain ⟨r0, r1, rf⟩ := blk2 hrs
      clear hW3 k1 k2 k3 k4 hbW hN hsz3 hcp hka hna
      go_wp2_with fail
      change bodyPost _ _ _ _ _ ((wo.setCell ⟨n0, 0, none⟩ (.slice B im2.length vc)).setCell ⟨n0, 1, none⟩ (.slice D l2.length dc))
      generalize (wo.setCell ⟨n0, 0, none⟩ (.slice B im2.length vc)).setCell ⟨n0, 1, none⟩ (.slice D l2.length dc) = W3 at HW3 ⊢
      obtain ⟨hw3, k1, k2, k3, k4, hbW⟩ := HW3.out
      obtain ⟨z0, z1, _⟩ := blk2 hw3
      refine bodyPost_ret (v := .tuple #[.agg #[.slice B im2.length vc, .slice D l2.length dc], .slice A na ac, .slice Bi im2.length vi, .bool true]) ?_ rfl ?_
      · simp [results, Tryz.results25, Tryz.f25, go_sem, z0, z1]
      · obtain ⟨⟨c1, c2, c3, c4, c5, c6⟩, c7, c8⟩ := HCP.out
        rw [hn0] at k1 k2 k3 k4
        exact ⟨B, vc, D, dc, A, ac, Bi, vi, by rw [HNA.out], ⟨c1, c2, c3, c4, c7, c8, c5, c6⟩, k1, k2, k3, k4, hbW⟩
end Go.Proofs.YtgmeghandjkkcaaGreat
