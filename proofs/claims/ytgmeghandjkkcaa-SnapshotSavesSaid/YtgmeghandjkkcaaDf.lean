/-
  The laws of a run: each item keeps its image; a deletion never makes the cost greater: the walk.
-/
import Derived.Test.YtgmeghandjkkcaaDc
import Derived.Test.YtgmeghandjkkcaaLw
set_option linter.unusedVariables false
set_option linter.unusedSimpArgs false
set_option linter.unusedSectionVars false
set_option linter.unnecessarySimpa false
namespace Go.Proofs.Ytgmeghandjkkcaa
open Go.RowKit Go.Shelf
attribute [local go_sem] Oper.semAt_some

/-- the place of an item, its image -/
theorem RInv.at_ {k : Nat} {im : Img} {l : List Snp} {all : List Kpt} (h : RInv k im l all) {j : Nat} (hj : j < all.length) (hjl : j < l.length) :
    l[j].1 = all[j].1 ∧ l[j].2.1 = all[j].2.2 ∧ findE (im, l) all[j].1 = 0 ∧ findN (im, l) all[j].1 = j ∧ atL im (l.drop j) = all[j].2.1 := by
  have hk : l[j].1 = all[j].1 := by
    have := congrArg (fun m => (m[j]?).map (·.1)) h.key
    simpa [keyS, hj, hjl] using this
  have hk2 : l[j].2.1 = all[j].2.2 := by
    have := congrArg (fun m => (m[j]?).map (·.2)) h.key
    simpa [keyS, hj, hjl] using this
  obtain ⟨f1, f2⟩ := find_at h.ok hjl
  rw [hk] at f1 f2
  refine ⟨hk, hk2, f1, f2, ?_⟩
  have h1 := imgs_at (im := im) hjl
  rw [h.ims] at h1
  simpa [hj] using h1.symm
theorem RInv.image {k : Nat} {im : Img} {l : List Snp} {all : List Kpt} (h : RInv k im l all) {j : Nat} (hj : j < all.length) :
    findE (im, l) all[j].1 = 0 ∧ sImage (im, l) all[j].1 = all[j].2.1 := by
  have hjl : j < l.length := by rw [h.len2]; exact hj
  obtain ⟨_, _, h3, h4, h5⟩ := h.at_ hj hjl
  exact ⟨h3, by unfold sImage; rw [if_pos h3, h4]; exact h5⟩
theorem RInv.ilen {k : Nat} {im : Img} {l : List Snp} {all : List Kpt} (h : RInv k im l all) {j : Nat} (hj : j < all.length) : (all[j].2.1).length = im.length := by
  have hjl : j < l.length := by rw [h.len2]; exact hj
  obtain ⟨_, _, _, _, h5⟩ := h.at_ hj hjl
  have h2 := atL_lens' (im := im) (l := l.drop j) (fun x hx => h.fits x (List.mem_of_mem_drop hx))
  rw [h5] at h2
  have := congrArg List.length h2
  simpa [Proofs.Ytgmeghandjkkcaa.lens] using this
theorem RInv.check {k : Nat} {im : Img} {l : List Snp} {all : List Kpt} (h : RInv k im l all) : snE (im, l) = 0 := h.ok
set_option maxHeartbeats 4000000 in
set_option maxRecDepth 100000 in
theorem keeps36_any (A0 : Option Addr) (c0 n : Nat) (xs : List Stp) (w : World) (hn : xs.length = n) (h1 : SlAt encStp w (Bl w.heap.size) A0 xs) (hs : n ≤ 9223372036854775807) :
    Calls Try.prog 4 #[.slice A0 n c0] w (LawRet w) := by
  subst hn
  have H1 := Lib.hid h1
  clear h1
  have hB0 : Below w.heap.size w w := Below.refl _ _
  go_enter Try.func4, Try.ntmps4
  by_cases hle : xs.length ≤ 25
  case neg =>
    have hgt : (25 : Int) < xs.length := by omega
    go_upto_region 2 with (fail)
    go_wp2_with fail
    refine (awake36_any _).mono ?_
    rintro e wz ⟨rfl, hbz⟩
    go_wp2
    go_ret
    exact ⟨rfl, ext_trans hB0 (ext_trans hB0 hbz)⟩
  have hng : ¬ (25 : Int) < xs.length := by omega
  have hok : ∀ x ∈ xs, OkStp x := fun x hx => by
    obtain ⟨k, hk, rfl⟩ := List.mem_iff_getElem.1 hx
    obtain ⟨_, _, _, _, _, _, _, _, _, h⟩ := H1.out.stp hk
    exact h
  obtain ⟨im, l, all, ht⟩ : ∃ im l all, Hid (runT xs xs.length = (im, l, all)) := ⟨_, _, _, Lib.hid rfl⟩
  obtain ⟨m, hm⟩ : ∃ m, all.length = m := ⟨_, rfl⟩
  have hinv := runT_inv hok xs.length (Nat.le_refl _) (by omega)
  have hcap := runT_cap (xs := xs) xs.length
  rw [ht.out] at hinv hcap
  have hlm : l.length = m := by rw [← hm]; exact hinv.len2
  have hm25 : m ≤ 25 := by rw [← hm]; exact Nat.le_trans hinv.len hle
  have hims := (hinv.lim (by omega) hcap).ims
  have HRUN : Hid (Calls Try.prog 16 #[.slice A0 xs.length c0] w fun e w' => ∃ B vc D dc A ac Bi vi, e = .returned (.tuple #[.agg #[.slice B im.length vc, .slice D m dc], .slice A m ac, .slice Bi im.length vi, .bool true]) ∧ (im.length ≤ vc ∧ vc ≤ maxLen ∧ m ≤ dc ∧ dc ≤ maxLen ∧ m ≤ ac ∧ ac ≤ maxLen ∧ im.length ≤ vi ∧ vi ≤ maxLen) ∧ SlAt (encSl encSec) w' (Nw w.heap.size w'.heap.size) B im ∧ SlAt encSnp w' (Nw w.heap.size w'.heap.size) D l ∧ SlAt encK w' (Nw w.heap.size w'.heap.size) A all ∧ SlAt (encSl encSec) w' (Nw w.heap.size w'.heap.size) Bi im ∧ Below w.heap.size w w') := by
    have h := run36_any A0 c0 xs.length xs w rfl H1.out hle im l all ht.out
    rw [hlm, hm] at h
    exact h
  have HINV := Lib.hid hinv
  have HLM := Lib.hid (hinv.lim (by omega) hcap)
  have HL := Lib.hid (And.intro hlm hm)
  have HOK := Lib.hid hok
  clear hinv hcap hlm hm hok
  go_wp2_with fail
  refine HRUN.out.mono ?_
  rintro e w1 ⟨B, vc, D, dc, A, ac, Bi, vi, rfl, ⟨hc1, hc2, hc3, hc4, hc5, hc6, hc7, hc8⟩, k1, k2, k3, k4, hb1⟩
  have K1 := Lib.hid (k1.more (S' := Bl w1.heap.size) (fun g hg => hg.2))
  have K2 := Lib.hid (k2.more (S' := Bl w1.heap.size) (fun g hg => hg.2))
  have K3 := Lib.hid (k3.more (S' := Bl w1.heap.size) (fun g hg => hg.2))
  have K4 := Lib.hid (k4.more (S' := Bl w1.heap.size) (fun g hg => hg.2))
  clear k1 k2 k3 k4 HRUN
  go_upto_region 4 with (fail)
  obtain ⟨xb, hxb⟩ : ∃ xb, w1.heap.size = xb := ⟨_, rfl⟩
  obtain ⟨w2, hw2⟩ : ∃ w2, w1.alloc (.cells #[.slice B im.length vc, .slice D m dc] 26) = w2 := ⟨_, rfl⟩
  rw [hw2, hxb]
  have hb12 : Below w1.heap.size w1 w2 := by rw [← hw2]; exact ext_alloc (Below.refl _ _)
  have hr2 : w2.heap[xb]? = some (.cells #[.slice B im.length vc, .slice D m dc] 26 (0, 0)) := by rw [← hw2, ← hxb]; exact heap_alloc_new _ _
  have hb2 : Below w.heap.size w w2 := ext_trans hb1 hb12
  have HC : Hid (∀ W, Below w2.heap.size w2 W → W.cell? ⟨xb, 0, none⟩ = some (.slice B im.length vc) ∧ W.cell? ⟨xb, 1, none⟩ = some (.slice D m dc)) := fun W hb => by
    obtain ⟨a, b, _⟩ := blk2 ((hb.block xb (Array.getElem?_eq_some_iff.1 hr2).1).trans hr2)
    exact ⟨a, b⟩
  have HB12 := Lib.hid hb12
  clear hw2 hr2 hb12 hb1 hxb
  have KS := Lib.hid (fun W (hb : Below w2.heap.size w2 W) => sameImg07_any B Bi vc vi _ _ im im W (((K1.out.fwd HB12.out).fwd hb)) ((K4.out.fwd HB12.out).fwd hb) (by omega) (by omega))
  obtain ⟨p0, p1⟩ := HC.out w2 (Below.refl _ _)
  go_wp2_with fail
  refine (KS.out w2 (Below.refl _ _)).mono ?_
  rintro e w3 ⟨he, hd3⟩
  have he' : e = .returned (.bool true) := by rw [he]; simp
  subst he'
  have hb3 : Below w2.heap.size w2 w3 := hd3.below _
  obtain ⟨q0, q1⟩ := HC.out w3 hb3
  clear he p0 p1 KS
  have KC := Lib.hid (snCheck_any B D vc dc im.length m im l 0 w3 rfl HL.out.1 HINV.out.ok ((K1.out.fwd HB12.out).fwd hb3) ((K2.out.fwd HB12.out).fwd hb3) hims (by omega))
  go_wp2_with fail
  refine KC.out.mono ?_
  rintro e w4 ⟨rfl, hb4⟩
  have hb24 : Below w2.heap.size w2 w4 := ext_trans hb3 hb4
  clear q0 q1 KC
  go_wp2_with fail
  go_loopw [7] (fun i wr => ∃ k : Nat, k ≤ m ∧ i = .int .i64 k ∧ Below w2.heap.size w2 wr) (fun i _ => m - (intOf i).toNat)
  case atStart => exact ⟨0, by omega, rfl, hb24⟩
  case round =>
    obtain ⟨wo, rfl⟩ : ∃ wo : World, wo = wr := ⟨_, rfl⟩
    obtain ⟨k, hk, rfl, hB⟩ := hrel
    by_cases hlt : k < m
    · have hki : (k : Int) < m := by omega
      have hkn : (0 : Int) ≤ k := by omega
      have hka : k < all.length := by rw [HL.out.2]; exact hlt
      obtain ⟨ga, offa, Dk, ck, rfl, hga, ea, eb, ec, ed, ee, ef, eg, eh⟩ := (K3.out.fwd (HB12.out.trans (hB.mono HB12.out.size))).kpt hka
      obtain ⟨hf0, hf1⟩ := HINV.out.image hka
      obtain ⟨num, hnum⟩ : ∃ q, (all[k]'hka).1 = q := ⟨_, rfl⟩
      obtain ⟨r, hr⟩ : ∃ q, (all[k]'hka).2.1 = q := ⟨_, rfl⟩
      have hrl : r.length ≤ 100000 := by
        rw [← hr, HINV.out.ilen hka]
        exact hims
      have hga2 : ga < wo.heap.size := hga
      rw [hnum] at ea hf0 hf1
      rw [hr] at eb ed ee hf1
      have hbd : Below wo.heap.size wo wo.drew := (Below.refl _ _).drew
      have hBd : Below w2.heap.size w2 wo.drew := hB.drew
      obtain ⟨p0, p1⟩ := HC.out wo.drew hBd
      have ea2 : wo.drew.cell? ⟨ga, offa + k * 3, none⟩ = some (.int .i64 num) := ea
      have KI := Lib.hid (snImage_any B D vc dc im.length m im l num wo.drew rfl HL.out.1 (((K1.out.fwd HB12.out).fwd hBd)) ((K2.out.fwd HB12.out).fwd hBd) HLM.out hc3 r hf1 0 hf0)
      have HED := Lib.hid ed
      have HEB := Lib.hid eb
      clear ec ed eg eh hf0 hf1 hnum hr ea hga eb
      go_upto_region 9 with (fail)
      go_cut [8, 9] (fun e f wx => ∃ Bx vx, e = .slice Bx r.length vx ∧ f = .int .i64 0 ∧ SlAt (encSl encSec) wx (Bl wx.heap.size) Bx r ∧ Below wo.heap.size wo wx)
      case first =>
        go_region_law (first | (go_simp; go_at_call 18; refine KI.out.mono ?_; rintro e w5 ⟨Bx, vx, rfl, z1, z2, z3, hb5⟩; have hx5 : Below wo.heap.size wo w5 := ext_trans hbd hb5; have z4 := z3.more (S' := Bl w5.heap.size) (fun g hg => hg.2)))
        all_goals
          go_wp2
          go_meet
          exact ⟨Bx, vx, rfl, rfl, z4, hx5⟩
      case rest =>
        obtain ⟨Bx, vx, rfl, rfl, z4, hx5⟩ := hcut
        have KS := Lib.hid (sameImg07_any Bx Dk vx ck _ _ r r wc z4 (HED.out.fwd hx5) (by omega) (by omega))
        have eb2 : wc.cell? ⟨ga, offa + k * 3 + 1, none⟩ = some (.slice Dk r.length ck) := (World.cell?_of_block (a := ⟨ga, offa + k * 3 + 1, none⟩) (hx5.block ga hga2)).trans HEB.out
        go_wp2_with fail
        refine KS.out.mono ?_
        rintro e w6 ⟨he, hd6⟩
        have he' : e = .returned (.bool true) := by rw [he]; simp
        subst he'
        have hB6 : Below w2.heap.size w2 w6 := ext_trans hB (ext_trans hx5 (hd6.below _))
        clear he KS eb2
        go_wp2_with fail
        go_roundw
        case rel => exact ⟨k + 1, by omega, by go_num, hB6⟩
        case measure => simp [intOf]; omega
    · have hkk : k = m := by omega
      subst hkk
      have hng2 : ¬ (k : Int) < k := by omega
      go_upto_region 12 with (fail)
      go_wp2_with fail
      refine (awake36_any _).mono ?_
      rintro e wz ⟨rfl, hbz⟩
      go_wp2
      go_ret
      exact ⟨rfl, ext_trans hB0 (ext_trans (ext_trans hb2 hB) hbz)⟩
end Go.Proofs.Ytgmeghandjkkcaa
