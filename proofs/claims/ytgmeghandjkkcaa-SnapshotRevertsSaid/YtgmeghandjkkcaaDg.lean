/-
  The law of a run: reverting brings an image back, and the items before it remain: the walk.
-/
import Derived.Test.YtgmeghandjkkcaaDf
set_option linter.unusedVariables false
set_option linter.unusedSimpArgs false
set_option linter.unusedSectionVars false
set_option linter.unnecessarySimpa false
namespace Go.Proofs.Ytgmeghandjkkcaa
open Go.RowKit Go.Shelf
attribute [local go_sem] Oper.semAt_some

set_option maxHeartbeats 4000000 in
set_option maxRecDepth 100000 in
theorem reverts36_any (A0 : Option Addr) (c0 n : Nat) (xs : List Stp) (q : Int) (hq : 0 ≤ q ∧ q < 256) (w : World) (hn : xs.length = n) (h1 : SlAt encStp w (Bl w.heap.size) A0 xs) (hs : n ≤ 9223372036854775807) :
    Calls Try.prog 5 #[.slice A0 n c0, .int .u8 q] w (LawRet w) := by
  subst hn
  have H1 := Lib.hid h1
  clear h1
  obtain ⟨hq0, hq1⟩ := hq
  have hB0 : Below w.heap.size w w := Below.refl _ _
  go_enter Try.func5, Try.ntmps5
  by_cases hle : xs.length ≤ 25
  case neg =>
    have hgt : (25 : Int) < xs.length := by omega
    go_upto_region 2 with (fail)
    go_wp2_with fail
    refine (awake36_any _).mono ?_
    rintro e wz ⟨rfl, hbz⟩
    go_wp2
    go_ret
    exact ⟨rfl, ext_trans hB0 (ext_trans hB0 hbz)⟩
  have hng : ¬ (25 : Int) < xs.length := by omega
  have hok : ∀ x ∈ xs, OkStp x := fun x hx => by
    obtain ⟨k, hk, rfl⟩ := List.mem_iff_getElem.1 hx
    obtain ⟨_, _, _, _, _, _, _, _, _, h⟩ := H1.out.stp hk
    exact h
  obtain ⟨im, l, all, ht⟩ : ∃ im l all, Hid (runT xs xs.length = (im, l, all)) := ⟨_, _, _, Lib.hid rfl⟩
  obtain ⟨m, hm⟩ : ∃ m, all.length = m := ⟨_, rfl⟩
  have hinv := runT_inv hok xs.length (Nat.le_refl _) (by omega)
  have hcap := runT_cap (xs := xs) xs.length
  rw [ht.out] at hinv hcap
  have hlm : l.length = m := by rw [← hm]; exact hinv.len2
  have hm25 : m ≤ 25 := by rw [← hm]; exact Nat.le_trans hinv.len hle
  have hims := (hinv.lim (by omega) hcap).ims
  have HRUN : Hid (Calls Try.prog 16 #[.slice A0 xs.length c0] w fun e w' => ∃ B vc D dc A ac Bi vi, e = .returned (.tuple #[.agg #[.slice B im.length vc, .slice D m dc], .slice A m ac, .slice Bi im.length vi, .bool true]) ∧ (im.length ≤ vc ∧ vc ≤ maxLen ∧ m ≤ dc ∧ dc ≤ maxLen ∧ m ≤ ac ∧ ac ≤ maxLen ∧ im.length ≤ vi ∧ vi ≤ maxLen) ∧ SlAt (encSl encSec) w' (Nw w.heap.size w'.heap.size) B im ∧ SlAt encSnp w' (Nw w.heap.size w'.heap.size) D l ∧ SlAt encK w' (Nw w.heap.size w'.heap.size) A all ∧ SlAt (encSl encSec) w' (Nw w.heap.size w'.heap.size) Bi im ∧ Below w.heap.size w w') := by
    have h := run36_any A0 c0 xs.length xs w rfl H1.out hle im l all ht.out
    rw [hlm, hm] at h
    exact h
  have HINV := Lib.hid hinv
  have HLM := Lib.hid (hinv.lim (by omega) hcap)
  have HL := Lib.hid (And.intro hlm hm)
  have HOK := Lib.hid hok
  clear hinv hcap hlm hm hok
  go_wp2_with fail
  refine HRUN.out.mono ?_
  rintro e w1 ⟨B, vc, D, dc, A, ac, Bi, vi, rfl, ⟨hc1, hc2, hc3, hc4, hc5, hc6, hc7, hc8⟩, k1, k2, k3, k4, hb1⟩
  have K1 := Lib.hid (k1.more (S' := Bl w1.heap.size) (fun g hg => hg.2))
  have K2 := Lib.hid (k2.more (S' := Bl w1.heap.size) (fun g hg => hg.2))
  have K3 := Lib.hid (k3.more (S' := Bl w1.heap.size) (fun g hg => hg.2))
  have K4 := Lib.hid (k4.more (S' := Bl w1.heap.size) (fun g hg => hg.2))
  clear k1 k2 k3 k4 HRUN
  go_upto_region 4 with (fail)
  obtain ⟨xb, hxb⟩ : ∃ xb, w1.heap.size = xb := ⟨_, rfl⟩
  obtain ⟨w2, hw2⟩ : ∃ w2, w1.alloc (.cells #[.slice B im.length vc, .slice D m dc] 26) = w2 := ⟨_, rfl⟩
  rw [hw2, hxb]
  have hb12 : Below w1.heap.size w1 w2 := by rw [← hw2]; exact ext_alloc (Below.refl _ _)
  have hr2 : w2.heap[xb]? = some (.cells #[.slice B im.length vc, .slice D m dc] 26 (0, 0)) := by rw [← hw2, ← hxb]; exact heap_alloc_new _ _
  have hb2 : Below w.heap.size w w2 := ext_trans hb1 hb12
  have HC : Hid (∀ W, Below w2.heap.size w2 W → W.cell? ⟨xb, 0, none⟩ = some (.slice B im.length vc) ∧ W.cell? ⟨xb, 1, none⟩ = some (.slice D m dc)) := fun W hb => by
    obtain ⟨a, b, _⟩ := blk2 ((hb.block xb (Array.getElem?_eq_some_iff.1 hr2).1).trans hr2)
    exact ⟨a, b⟩
  have HB12 := Lib.hid hb12
  clear hw2 hr2 hb12 hb1 hxb
  by_cases hm0 : 0 < m
  case neg =>
    have hmz : (m : Int) = 0 := by omega
    have hmz2 : m = 0 := by omega
    subst hmz2
    go_upto_region 7 with (fail)
    go_wp2_with fail
    refine (awake36_any _).mono ?_
    rintro e wz ⟨rfl, hbz⟩
    go_wp2
    go_ret
    exact ⟨rfl, ext_trans hB0 (ext_trans hb2 hbz)⟩
  have hmz : ¬ (m : Int) = 0 := by omega
  have hmb : ((m : Int) == 0) = false := by simp; omega
  obtain ⟨j, hj⟩ : ∃ j : Nat, q % (m : Int) = j := ⟨(q % (m : Int)).toNat, by have := Int.emod_nonneg q hmz; omega⟩
  have hjm : j < m := by have := Int.emod_lt_of_pos q (show (0 : Int) < m by omega); omega
  have hjt : q.tmod (m : Int) = (j : Int) := by rw [Int.tmod_eq_emod_of_nonneg hq0]; exact hj
  have hja : j < all.length := by rw [HL.out.2]; exact hjm
  have hji : (j : Int) < m := by omega
  have hj0 : (0 : Int) ≤ j := by omega
  obtain ⟨ga, offa, Dk, ck, rfl, hga, ea, eb, ec, ed, ee, ef, eg, eh⟩ := (K3.out.fwd HB12.out).kpt hja
  obtain ⟨f1, f2, f3, hinv2⟩ := HINV.out.revert hja
  have hil := HINV.out.ilen hja
  obtain ⟨num, hnum⟩ : ∃ q, (all[j]'hja).1 = q := ⟨_, rfl⟩
  obtain ⟨im3, him3⟩ : ∃ q, (all[j]'hja).2.1 = q := ⟨_, rfl⟩
  obtain ⟨l3, hl3⟩ : ∃ q, setLast (l.take (j + 1)) (fun _ => []) = q := ⟨_, rfl⟩
  rw [hnum] at ea f1 f2
  rw [him3] at eb ed ee hil hinv2 f3
  rw [hl3] at hinv2
  have hi3 : im3.length ≤ 100000 := by rw [hil]; exact hims
  clear hil
  have hcap3 : Cap l3 := fun x hx => by
    rw [← hl3] at hx
    rcases mem_setLast hx with hx | ⟨y, _, rfl⟩
    · have hcap := runT_cap (xs := xs) xs.length
      rw [ht.out] at hcap
      exact hcap x (List.mem_of_mem_take hx)
    · exact Nat.zero_le _
  have hLM3 := Lib.hid (hinv2.lim (by omega) hcap3)
  have hl3n : l3.length = j + 1 := by rw [hinv2.len2, List.length_take, HL.out.2]; omega
  have HRV : Hid (∀ W, Below w2.heap.size w2 W → Calls Try.prog 19 #[.agg #[.slice B im.length vc, .slice D m dc], .int .i64 num] W (fun e w' => ∃ B7 v7 D7 d7, e = .returned (.tuple #[.agg #[.slice B7 im3.length v7, .slice D7 (j + 1) d7], .int .i64 0]) ∧ (im3.length ≤ v7 ∧ v7 ≤ maxLen ∧ SlAt (encSl encSec) w' (Nw W.heap.size w'.heap.size) B7 im3) ∧ (j + 1 ≤ d7 ∧ d7 ≤ maxLen ∧ SlAt encSnp w' (Nw W.heap.size w'.heap.size) D7 l3) ∧ Below W.heap.size W w')) := fun W hb => by
    have h := snRevert_any B D vc dc im.length m im l num W rfl HL.out.1 ((K1.out.fwd HB12.out).fwd hb) ((K2.out.fwd HB12.out).fwd hb) HLM.out hc3
    have e : sRevert (im, l) num = (im3, l3) := by unfold sRevert; rw [if_pos f1, f2, hl3]; rw [f3]
    rw [f1, e] at h
    refine h.mono (fun e w' h => ?_)
    obtain ⟨B7, v7, D7, d7, he, h1, h2, h3⟩ := h
    simp only [hl3n] at he h1 h2
    exact ⟨B7, v7, D7, d7, he, h1, h2, h3⟩
  have HINV2 := Lib.hid hinv2
  have HL3 := Lib.hid hl3n
  have HED := Lib.hid ed
  have HSX : Hid (∀ W, Below w2.heap.size w2 W → (W.cell? ⟨xb, 0, none⟩ = some (.slice B im.length vc) ∧ W.cell? ⟨xb, 1, none⟩ = some (.slice D m dc)) ∧ W.cell? ⟨ga, offa + j * 3, none⟩ = some (.int .i64 num)) := fun W hb => ⟨HC.out W hb, (World.cell?_of_block (a := ⟨ga, offa + j * 3, none⟩) (hb.block ga hga)).trans ea⟩
  have hga2 : ga < w2.heap.size := hga
  have hbd : Below w2.heap.size w2 w2.drew := (Below.refl _ _).drew
  have hbz : Below w2.heap.size w2 (w2.alloc (.cells #[.slice none 0 0, .slice none 0 0] 26)).drew := (ext_alloc (Below.refl _ _)).drew
  have hs0 := HSX.out w2.drew hbd
  clear f1 f2 f3 hinv2 hcap3 hl3n ed ec eg eh ea hga hl3 hj
  go_upto_region 9 with (fail)
  go_cut [10, 11] (fun e f wx => ∃ (yb : Nat) (B7 : Option Addr) (v7 : Nat) (D7 : Option Addr) (d7 : Nat), e = .pointer (some ⟨yb, 0, none⟩) ∧ f = .int .i64 0 ∧ yb < wx.heap.size ∧ Below w2.heap.size w2 wx ∧ wx.heap[yb]? = some (.cells #[.slice B7 im3.length v7, .slice D7 (j + 1) d7] 26 (0, 0)) ∧ (im3.length ≤ v7 ∧ v7 ≤ maxLen ∧ j + 1 ≤ d7 ∧ d7 ≤ maxLen) ∧ SlAt (encSl encSec) wx (Bl wx.heap.size) B7 im3 ∧ SlAt encSnp wx (Bl wx.heap.size) D7 l3)
  case first =>
    go_region_held3 (fun W => (W.cell? ⟨xb, 0, none⟩ = some (.slice B im.length vc) ∧ W.cell? ⟨xb, 1, none⟩ = some (.slice D m dc)) ∧ W.cell? ⟨ga, offa + j * 3, none⟩ = some (.int .i64 num)) (first | with_reducible exact hs0 | with_reducible exact HSX.out _ hbz | with_reducible exact HSX.out _ hx7 | with_reducible exact HSX.out _ ((hx7.setCell (p := ⟨_, 0, none⟩) hzb _).setCell (p := ⟨_, 1, none⟩) hzb _) | with_reducible exact HSX.out _ (ext_alloc hx7) | go_keep) (first | (go_at_call 19; (with_reducible refine Calls.at_w (w2.alloc (.cells #[.slice none 0 0, .slice none 0 0] 26)).drew ?_); refine (HRV.out (w2.alloc (.cells #[.slice none 0 0, .slice none 0 0] 26)).drew hbz).mono ?_; rintro e w7 ⟨B7, v7, D7, d7, rfl, ⟨m1, m2, m3⟩, ⟨m4, m5, m6⟩, hb7⟩; have hx7 : Below w2.heap.size w2 w7 := ext_trans hbz hb7; have hzb : w2.heap.size ≤ w2.heap.size := Nat.le_refl _; have hzr : w7.heap[w2.heap.size]? = some (.cells #[.slice none 0 0, .slice none 0 0] 26 (0, 0)) := (hb7.block w2.heap.size (by simp)).trans (heap_alloc_new w2 (.cells #[.slice none 0 0, .slice none 0 0] 26)); obtain ⟨t0, t1, tf⟩ := blk2 hzr) | (go_at_call 19; (with_reducible refine Calls.at_w w2.drew ?_); refine (HRV.out w2.drew hbd).mono ?_; rintro e w7 ⟨B7, v7, D7, d7, rfl, ⟨m1, m2, m3⟩, ⟨m4, m5, m6⟩, hb7⟩; have hx7 : Below w2.heap.size w2 w7 := ext_trans hbd hb7))
    · go_wp2
      go_meet
      have hz7 := hb7.size
      have hk : ∀ b, Nw w2.drew.heap.size w7.heap.size b → (w7.alloc (.cells #[.slice B7 im3.length v7, .slice D7 (j + 1) d7] 26)).heap[b]? = w7.heap[b]? := fun b hb => Below.heap_alloc _ _ _ hb.2
      have hN : ∀ b, Nw w2.drew.heap.size w7.heap.size b → Bl (w7.alloc (.cells #[.slice B7 im3.length v7, .slice D7 (j + 1) d7] 26)).heap.size b := fun b hb => by have := hb.2; show b < _; simp; omega
      exact ⟨_, B7, v7, D7, d7, rfl, rfl, by simp, ext_alloc hx7, heap_alloc_new _ _, ⟨m1, m2, m4, m5⟩, (m3.blk hk).more hN, (m6.blk hk).more hN⟩
    · go_wp2
      go_meet
      have hz7 := hb7.size
      have hzl : w2.heap.size < w7.heap.size := (Array.getElem?_eq_some_iff.1 hzr).1
      have hne : ∀ b, Nw (w2.alloc (.cells #[.slice none 0 0, .slice none 0 0] 26)).drew.heap.size w7.heap.size b → b ≠ w2.heap.size := fun b hb e => by have h := hb.1; simp [World.drew] at h; omega
      have hN : ∀ b, Nw (w2.alloc (.cells #[.slice none 0 0, .slice none 0 0] 26)).drew.heap.size w7.heap.size b → Bl ((w7.setCell ⟨w2.heap.size, 0, none⟩ (.slice B7 im3.length v7)).setCell ⟨w2.heap.size, 1, none⟩ (.slice D7 (j + 1) d7)).heap.size b := fun b hb => by have := hb.2; show b < _; simp [World.setCell]; omega
      exact ⟨_, B7, v7, D7, d7, rfl, rfl, by simp [World.setCell]; omega, (hx7.setCell (p := ⟨w2.heap.size, 0, none⟩) (Nat.le_refl _) _).setCell (p := ⟨w2.heap.size, 1, none⟩) (Nat.le_refl _) _, blk2_set hzr _ _, ⟨m1, m2, m4, m5⟩, (m3.set2 hne _ _).more hN, (m6.set2 hne _ _).more hN⟩
  case rest =>
  obtain ⟨yb, B7, v7, D7, d7, rfl, rfl, hyb, hx5, hyr, ⟨n1, n2, n3, n4⟩, m3, m6⟩ := hcut
  obtain ⟨w5, rfl⟩ : ∃ w5 : World, w5 = wc := ⟨_, rfl⟩
  have M3 := Lib.hid m3
  have M6 := Lib.hid m6
  have HY : Hid (∀ W, Below w5.heap.size w5 W → W.cell? ⟨yb, 0, none⟩ = some (.slice B7 im3.length v7) ∧ W.cell? ⟨yb, 1, none⟩ = some (.slice D7 (j + 1) d7)) := fun W hb => by
    obtain ⟨a, b, _⟩ := blk2 ((hb.block yb hyb).trans hyr)
    exact ⟨a, b⟩
  have hz5 := hx5.size
  have HEB : Hid (∀ W, Below w5.heap.size w5 W → W.cell? ⟨ga, offa + j * 3 + 1, none⟩ = some (.slice Dk im3.length ck)) := fun W hb => (World.cell?_of_block (a := ⟨ga, offa + j * 3 + 1, none⟩) ((ext_trans hx5 hb).block ga hga2)).trans eb
  have HED5 := Lib.hid (HED.out.fwd hx5)
  clear m3 m6 hyr hs0 HSX HRV hbz hbd eb
  go_upto_region 10 with (fail)
  have hwj : IntKind.i64.wrap ((j : Int) + 1) = (j : Int) + 1 := IntWalk.i64_in _ (by omega)
  have hbd : Below w5.heap.size w5 w5.drew := (Below.refl _ _).drew
  obtain ⟨y0, y1⟩ := HY.out w5.drew hbd
  have eb := HEB.out w5.drew hbd
  have KS := Lib.hid (sameImg07_any B7 Dk v7 ck _ _ im3 im3 w5.drew (M3.out.fwd hbd) (HED5.out.fwd hbd) (by omega) (by omega))
  go_cut [67] (fun e wx => e = .bool false ∧ Below w5.heap.size w5 wx)
  case first =>
    go_region_held3 (fun W => (W.cell? ⟨yb, 0, none⟩ = some (.slice B7 im3.length v7) ∧ W.cell? ⟨yb, 1, none⟩ = some (.slice D7 (j + 1) d7)) ∧ W.cell? ⟨ga, offa + j * 3 + 1, none⟩ = some (.slice Dk im3.length ck)) (first | with_reducible exact ⟨⟨y0, y1⟩, eb⟩ | with_reducible exact ⟨HY.out _ hx6, HEB.out _ hx6⟩ | go_keep) (first | (go_at_call 17; refine KS.out.mono ?_; rintro e w6 ⟨he, hd6⟩; have he' : e = .returned (.bool true) := he.trans (by simp); subst he'; have hx6 : Below w5.heap.size w5 w6 := ext_trans hbd (hd6.below _); clear he))
    all_goals
      go_wp2
      go_meet
      exact ⟨rfl, hx6⟩
  case rest =>
  obtain ⟨rfl, hx6⟩ := hcut
  clear y0 y1 eb hbd KS
  have hw5 : Below w.heap.size w w5 := ext_trans hb2 hx5
  have hA5 : Below w1.heap.size w1 w5 := ext_trans HB12.out hx5
  have hta : ∀ i (h : i < j + 1), i < (all.take (j + 1)).length := fun i h => by rw [List.length_take, HL.out.2]; omega
  go_wp2_with fail
  go_loopw [12] (fun i wr => ∃ k : Nat, k ≤ j + 1 ∧ i = .int .i64 k ∧ Below w5.heap.size w5 wr) (fun i _ => j + 1 - (intOf i).toNat)
  case atStart => exact ⟨0, by omega, rfl, hx6⟩
  case round =>
    obtain ⟨wo, rfl⟩ : ∃ wo : World, wo = wr := ⟨_, rfl⟩
    obtain ⟨k, hk, rfl, hB⟩ := hrel
    by_cases hlt : k < j + 1
    · have hki : (k : Int) ≤ j := by omega
      have hkm : (k : Int) < m := by omega
      have hkn : (0 : Int) ≤ k := by omega
      have hka : k < all.length := by rw [HL.out.2]; omega
      have hka2 := hta k hlt
      obtain ⟨ga2, offa2, Dk2, ck2, he2, hga, ea, eb, ec, ed, ee, ef, eg, eh⟩ := (K3.out.fwd (HB12.out.trans ((ext_trans hx5 hB).mono HB12.out.size))).kpt hka
      injection he2 with he2
      injection he2 with he3 he4
      subst he3 he4
      obtain ⟨hf0, hf1⟩ := HINV2.out.image hka2
      rw [List.getElem_take] at hf0 hf1
      obtain ⟨num2, hnum2⟩ : ∃ q, (all[k]'hka).1 = q := ⟨_, rfl⟩
      obtain ⟨r, hr⟩ : ∃ q, (all[k]'hka).2.1 = q := ⟨_, rfl⟩
      have hrl : r.length ≤ 100000 := by
        rw [← hr, HINV.out.ilen hka]
        exact hims
      have hga2' : ga < wo.heap.size := hga
      rw [hnum2] at ea hf0 hf1
      rw [hr] at eb ed ee hf1
      have hbd : Below wo.heap.size wo wo.drew := (Below.refl _ _).drew
      have hBd : Below w5.heap.size w5 wo.drew := hB.drew
      obtain ⟨p0, p1⟩ := HY.out wo.drew hBd
      have ea2 : wo.drew.cell? ⟨ga, offa + k * 3, none⟩ = some (.int .i64 num2) := ea
      have KI := Lib.hid (snImage_any B7 D7 v7 d7 im3.length (j + 1) im3 l3 num2 wo.drew rfl HL3.out (M3.out.fwd hBd) (M6.out.fwd hBd) hLM3.out n3 r hf1 0 hf0)
      have HED2 := Lib.hid ed
      have HEB2 := Lib.hid eb
      clear ec ed eg eh hf0 hf1 hnum2 hr ea hga eb
      go_upto_region 15 with (fail)
      go_cut [13, 14] (fun e f wx => ∃ Bx vx, e = .slice Bx r.length vx ∧ f = .int .i64 0 ∧ SlAt (encSl encSec) wx (Bl wx.heap.size) Bx r ∧ Below wo.heap.size wo wx)
      case first =>
        go_region_law (first | (go_simp; go_at_call 18; refine KI.out.mono ?_; rintro e w5 ⟨Bx, vx, rfl, z1, z2, z3, hb5⟩; have hx5 : Below wo.heap.size wo w5 := ext_trans hbd hb5; have z4 := z3.more (S' := Bl w5.heap.size) (fun g hg => hg.2)))
        all_goals
          go_wp2
          go_meet
          exact ⟨Bx, vx, rfl, rfl, z4, hx5⟩
      case rest =>
        obtain ⟨Bx, vx, rfl, rfl, z4, hx7⟩ := hcut
        have KS := Lib.hid (sameImg07_any Bx Dk2 vx ck2 _ _ r r wc z4 (HED2.out.fwd hx7) (by omega) (by omega))
        have eb2 : wc.cell? ⟨ga, offa + k * 3 + 1, none⟩ = some (.slice Dk2 r.length ck2) := (World.cell?_of_block (a := ⟨ga, offa + k * 3 + 1, none⟩) (hx7.block ga hga2')).trans HEB2.out
        go_wp2_with fail
        refine KS.out.mono ?_
        rintro e w8 ⟨he, hd8⟩
        have he' : e = .returned (.bool true) := he.trans (by simp)
        subst he'
        have hB8 : Below w5.heap.size w5 w8 := ext_trans hB (ext_trans hx7 (hd8.below _))
        clear he KS eb2
        go_wp2_with fail
        go_roundw
        case rel => exact ⟨k + 1, by omega, by go_num, hB8⟩
        case measure => simp [intOf]; omega
    · have hkk : k = j + 1 := by omega
      subst hkk
      have hng2 : ¬ ((j + 1 : Nat) : Int) ≤ j := by omega
      have hng3 : ¬ (j : Int) + 1 ≤ j := by omega
      go_upto_region 18 with (fail)
      go_wp2_with fail
      refine (awake36_any _).mono ?_
      rintro e wz ⟨rfl, hbz⟩
      go_wp2
      go_ret
      exact ⟨rfl, ext_trans hB0 (ext_trans (ext_trans hw5 hB) hbz)⟩
end Go.Proofs.Ytgmeghandjkkcaa
