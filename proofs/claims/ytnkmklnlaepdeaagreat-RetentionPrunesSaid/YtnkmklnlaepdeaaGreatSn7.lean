/-
  A sector stored; the reference's Fits, its copy of an image that it owns, its Apply.
  The reference's Apply of an image; kept.
  The reference's Find, find, Take of snapshots.
  The reference's kept.
  The reference's over, imageAt, Image.
  The reference's Apply of snapshots.
-/
import Derived.Test.YtnkmklnlaepdeaaGreatSr
import Derived.Test.YtnkmklnlaepdeaaGreatIn1
import Derived.BigQuiet
import Derived.Test.YtnkmklnlaepdeaaGreatSz
import Derived.Test.YtnkmklnlaepdeaaGreatKw
import Derived.Test.YtnkmklnlaepdeaaGreatSn8
set_option linter.unusedVariables false
set_option linter.unusedSimpArgs false
set_option linter.unusedSectionVars false
set_option linter.unnecessarySimpa false
namespace Go.Proofs.YtnkmklnlaepdeaaGreat
open Go.RowKit Go.Shelf
attribute [local go_sem] Oper.semAt_some

/-- a sector's eight cells stored -/
def st8 (w : World) (g k : Nat) (x0 x1 x2 x3 x4 x5 x6 x7 : Int) : World :=
  (((((((w.setCell ⟨g, k * 8, none⟩ (.int .u8 x0)).setCell ⟨g, k * 8 + 1, none⟩ (.int .u8 x1)).setCell ⟨g, k * 8 + 2, none⟩ (.int .u8 x2)).setCell ⟨g, k * 8 + 3, none⟩ (.int .u8 x3)).setCell ⟨g, k * 8 + 4, none⟩ (.int .u8 x4)).setCell ⟨g, k * 8 + 5, none⟩ (.int .u8 x5)).setCell ⟨g, k * 8 + 6, none⟩ (.int .u8 x6)).setCell ⟨g, k * 8 + 7, none⟩ (.int .u8 x7)
section
variable {w : World} {g k b : Nat} {x0 x1 x2 x3 x4 x5 x6 x7 : Int}
theorem st8_other (h : b ≠ g) : (st8 w g k x0 x1 x2 x3 x4 x5 x6 x7).heap[b]? = w.heap[b]? := by
  unfold st8
  exact (heap_setCell_other _ _ _ _ h).trans ((heap_setCell_other _ _ _ _ h).trans ((heap_setCell_other _ _ _ _ h).trans ((heap_setCell_other _ _ _ _ h).trans ((heap_setCell_other _ _ _ _ h).trans ((heap_setCell_other _ _ _ _ h).trans ((heap_setCell_other _ _ _ _ h).trans (heap_setCell_other _ _ _ _ h)))))))
theorem st8_size : (st8 w g k x0 x1 x2 x3 x4 x5 x6 x7).heap.size = w.heap.size := by simp [st8, World.setCell]
theorem st8_same : (st8 w g k x0 x1 x2 x3 x4 x5 x6 x7).os = w.os ∧ (st8 w g k x0 x1 x2 x3 x4 x5 x6 x7).tape = w.tape ∧ (st8 w g k x0 x1 x2 x3 x4 x5 x6 x7).output = w.output := by
  have h : Below 0 w (st8 w g k x0 x1 x2 x3 x4 x5 x6 x7) := by
    unfold st8
    exact ((((((((Below.refl 0 w).setCell (p := ⟨g, k * 8, none⟩) (Nat.zero_le _) _).setCell (p := ⟨g, k * 8 + 1, none⟩) (Nat.zero_le _) _).setCell (p := ⟨g, k * 8 + 2, none⟩) (Nat.zero_le _) _).setCell (p := ⟨g, k * 8 + 3, none⟩) (Nat.zero_le _) _).setCell (p := ⟨g, k * 8 + 4, none⟩) (Nat.zero_le _) _).setCell (p := ⟨g, k * 8 + 5, none⟩) (Nat.zero_le _) _).setCell (p := ⟨g, k * 8 + 6, none⟩) (Nat.zero_le _) _).setCell (p := ⟨g, k * 8 + 7, none⟩) (Nat.zero_le _) _
  exact ⟨h.os, h.tape, h.output⟩
theorem st8_grown : w.grownBy (st8 w g k x0 x1 x2 x3 x4 x5 x6 x7) (some g) :=
  ⟨st8_same.1, st8_same.2.1, st8_same.2.2, by rw [st8_size]; exact Nat.le_refl _, fun b _ hb => st8_other (fun e => hb (by rw [e]))⟩
theorem st8_below {lo : Nat} {w0 : World} (h : Below lo w0 w) (hg : lo ≤ g) : Below lo w0 (st8 w g k x0 x1 x2 x3 x4 x5 x6 x7) :=
  ⟨st8_same.1.trans h.os, st8_same.2.1.trans h.tape, st8_same.2.2.trans h.output, by rw [st8_size]; exact h.size, fun b hb => (st8_other (by omega)).trans (h.block b hb)⟩
end
theorem over_step {row news : List Sec} {s j : Nat} (h : s + news.length ≤ row.length) (hj : j < news.length) : (over row s (news.take j)).set (s + j) news[j] = over row s (news.take (j + 1)) := by
  unfold over
  rw [List.take_succ_eq_append_getElem hj]
  have h1 : (row.take s ++ news.take j).length = s + j := by simp; omega
  have h2 : (news.take j).length = j := by simp; omega
  have h3 : (news.take j ++ [news[j]]).length = j + 1 := by simp; omega
  rw [h2, h3]
  rw [List.set_append_right _ _ (by omega)]
  rw [h1, Nat.sub_self]
  rw [List.drop_eq_getElem_cons (by omega : s + j < row.length)]
  rw [List.set_cons_zero]
  have e : s + (j + 1) = s + j + 1 := by omega
  rw [e, List.append_assoc, List.append_assoc, List.append_assoc]
  rfl
theorem tyImageB : SliceTy Tryz.prog 26 55 encBlk.size 24 := sliceTy_mk (z := .slice none 0 0) Tryz.underlying26 (by kernel_rfl) rfl (by decide)
set_option maxHeartbeats 4000000 in
theorem refCopyOwn_any (A : Option Addr) (c n : Nat) (l : Img) (w : World) (hn : l.length = n) (h1 : SlAt (encSl encSec) w (Bl w.heap.size) A l) (hl : n ≤ 100000) (hne : ∀ r ∈ l, 0 < r.length ∧ r.length ≤ 1000000) :
    Calls Tryz.prog 51 #[.slice A n c] w fun e w' => ∃ B vc xs, e = .returned (.slice B n vc) ∧ ImgOwn w' w.heap.size B vc xs l ∧ Below w.heap.size w w' := by
  subst hn
  have H1 : Hid (∀ w', Below w.heap.size w w' → SlAt (encSl encSec) w' (Bl w.heap.size) A l) := fun w' hb => h1.below hb
  have HNE := Lib.hid hne
  clear h1 hne
  obtain ⟨n0, hn0⟩ : ∃ n0, w.heap.size = n0 := ⟨_, rfl⟩
  go_enter Tryz.func51, Tryz.ntmps51
  go_wp2
  go_loopw [3, 4] (fun v i wr => ∃ (k : Nat) (B : Option Addr) (vc : Nat) (xs : List (Nat × Nat × Nat)), k ≤ l.length ∧ i = .int .i64 k ∧ v = .slice B xs.length vc ∧ Below n0 w wr ∧ n0 ≤ wr.heap.size ∧ Hid (xs.length = k) ∧ Hid (ImgOwn wr n0 B vc xs (l.take k))) (fun _ i _ => l.length - (intOf i).toNat)
  case atStart => exact ⟨0, none, 0, [], by omega, rfl, rfl, Below.refl _ _, by omega, rfl, ⟨Own.nil_, rfl, fun _ h => by simp at h, List.nodup_nil⟩⟩
  case round =>
    obtain ⟨wo, rfl⟩ : ∃ wo : World, wo = wr := ⟨_, rfl⟩
    obtain ⟨k, B, vc, xs, hk, rfl, rfl, hB, hsz, hlen, hown⟩ := hrel
    by_cases hlt : k < l.length
    · have hnn : (0 : Int) ≤ k := by omega
      have hki : (k : Int) < l.length := by omega
      obtain ⟨b, off, D, dc, rfl, hb, g0, hD, hd1, hd2⟩ := (H1.out wo (by rw [hn0]; exact hB)).sl hlt
      obtain ⟨hp1, hp2⟩ := HNE.out l[k] (List.getElem_mem hlt)
      have hst : Hid (l.take (k + 1) = l.take k ++ [l[k]]) := List.take_succ_eq_append_getElem hlt
      obtain ⟨row, hrw⟩ : ∃ x, l[k] = x := ⟨_, rfl⟩
      rw [hrw] at g0 hD hd1 hp1 hp2 hst
      have HD := Lib.hid (hD.more (S' := fun g => g < wo.heap.size) (fun g hg => by have : g < w.heap.size := hg; omega))
      have hol : xs.length ≤ 100000 := by rw [hlen.out]; omega
      clear hrw hD
      go_wp2_with (at_builtin; refine Hid.out ?_)
      change wpList _ _ _ _ _ _
      refine wpList_appAll (E := encSec) tySecs36 rfl _ _ rfl rfl (Own.nil_ (w := wo) (base := wo.heap.size) (e := 54) (S := fun g => g < wo.heap.size)) (news := row) rfl rfl HD.out (fun _ h => h) (Nat.le_refl _) (by unfold maxLen; simp; omega) (by simp; omega) ?_
      intro A4 c4 w4 hown4 hg4 hat4
      have hown4' : Own encSec w4 wo.heap.size 54 (fun g => g < wo.heap.size) (.slice A4 row.length c4) row := by simpa using hown4
      have hg4' : wo.grownBy w4 none := hg4
      have hx4 : Below wo.heap.size wo w4 := (Below.refl _ _).grown hg4' (Nat.le_refl _) (fun k e => by cases e)
      have hfl := Own.flat hown4' (fun h => h)
      obtain ⟨g, _, rfl, _⟩ := hfl.elem (i := 0) (by omega)
      have hr4 : Hid (RowOf w4 wo.heap.size (g, row.length, c4) row) := hfl
      have hgn : wo.heap.size ≤ g := hr4.out.ty.1
      have hz4 := hx4.size
      have HO2 := Lib.hid (hown.out.below (hx4.trans (ext_alloc (o := .cells #[.slice (some ⟨g, 0, none⟩) row.length c4] 55) (Below.refl w4.heap.size w4) |>.mono hz4)))
      have HRD : Hid (encBlk.rd (w4.alloc (.cells #[.slice (some ⟨g, 0, none⟩) row.length c4] 55)) (fun _ => False) [.slice (some ⟨g, 0, none⟩) row.length c4] (g, row.length, c4)) := ⟨rfl, hr4.out.ty.2.2.2.1, hr4.out.ty.2.2.2.2.1⟩
      clear hown4 hg4 hat4 hown4' hg4' hfl
      simp only [List.length_nil, Nat.zero_add]
      go_wp2_with (at_builtin; refine Hid.out ?_)
      change wpList _ _ _ _ _ _
      refine wpList_app1 (E := encBlk) tyImageB rfl _ _ rfl rfl HO2.out.outer (g, row.length, c4) _ rfl HRD.out (heap_alloc_new _ _) (fun _ h => h.elim) (by simp; omega) (by unfold maxLen; omega) (by omega) ?_
      intro A5 c5 w5 hown5 hg5 hat5
      have hfin : Hid (ImgOwn w5 n0 A5 c5 (xs ++ [(g, row.length, c4)]) (l.take (k + 1))) := by
        rw [Hid, hst.out]
        refine HO2.out.snoc (x := (g, row.length, c4)) ((hr4.out.base hsz).blk ((Below.heap_alloc _ _ _ hr4.out.ty.2.1))) (fun y hy => ?_) hown5 hg5
        obtain ⟨j, hj, rfl⟩ := List.mem_iff_getElem.1 hy
        have := (hown.out.rows j hj (by rw [← hown.out.len]; exact hj)).ty.2.1
        simp only
        omega
      have hz5 := hg5.size
      have hB5 : Below n0 w w5 := (((hB.trans (hx4.mono hsz))).alloc (by omega) (.cells #[.slice (some ⟨g, 0, none⟩) row.length c4] 55)).grown hg5 (by simp; omega) (fun b h => (hown.out.outer.lt b h).1)
      have hz6 : n0 ≤ w5.heap.size := by simp at hz5; omega
      clear hown5 hg5 hat5 HO2 HRD hz5
      go_wp2
      go_roundw
      case rel => exact ⟨k + 1, A5, c5, xs ++ [(g, row.length, c4)], hlt, by go_num, by simp, hB5, hz6, by rw [Hid, List.length_append, hlen.out]; rfl, hfin.out⟩
      case measure => simp [intOf]; omega
    · have hkk : k = l.length := by omega
      subst hkk
      have ho := hown.out
      rw [List.take_length] at ho
      have HO := Lib.hid ho
      clear ho
      go_wp2
      go_ret
      exact ⟨B, vc, xs, by show Ending.returned (.slice B xs.length vc) = Ending.returned (.slice B l.length vc); rw [HO.out.len], by rw [hn0]; exact HO.out, by rw [hn0]; exact hB⟩
end Go.Proofs.YtnkmklnlaepdeaaGreat

namespace Go.Proofs.YtnkmklnlaepdeaaGreat
open Go.RowKit Go.Shelf
attribute [local go_sem] Oper.semAt_some

end Go.Proofs.YtnkmklnlaepdeaaGreat

namespace Go.Proofs.YtnkmklnlaepdeaaGreat
open Go.RowKit Go.Shelf
attribute [local go_sem] Oper.semAt_some

set_option maxHeartbeats 1000000 in
theorem refFind0_any (A A2 : Option Addr) (c c2 n m : Nat) (im : Img) (l : List Snp) (num r : Int) (w : World) (hn : im.length = n) (hm : l.length = m) (hr : idxAt (numIs num) l = r) (h2 : SlAt encSnp w (Bl w.heap.size) A2 l) (hl2 : m ≤ 9223372036854775807) :
    Calls Tryz.prog 75 #[.agg #[.slice A n c, .slice A2 m c2], .int .i64 num] w fun e w' => e = .returned (.int .i64 r) ∧ Below w.heap.size w w' := by
  subst hn hm
  have HR := Lib.hid hr
  have H2 : Hid (∀ w', Below w.heap.size w w' → SlAt encSnp w' (Bl w.heap.size) A2 l) := fun w' hb => h2.below hb
  clear h2 hr
  obtain ⟨W0, hW0⟩ : ∃ W0, w.alloc (.cells #[.slice A im.length c, .slice A2 l.length c2] 29) = W0 := ⟨_, rfl⟩
  have hB0 : Below w.heap.size w W0 := by rw [← hW0]; exact ext_alloc (Below.refl _ _)
  have hr0 : W0.heap[w.heap.size]? = some (.cells #[.slice A im.length c, .slice A2 l.length c2] 29 (0, 0)) := by rw [← hW0]; exact heap_alloc_new _ _
  obtain ⟨c0, c1, _⟩ := blk2 hr0
  have h2' := H2.out W0 hB0
  clear hr0
  have HW0 := Lib.hid hW0
  clear hW0
  go_enter Tryz.func75, Tryz.ntmps75
  go_wp2
  rw [HW0.out]
  go_loopw [5] (fun i wr => wr = W0 ∧ ∃ k : Nat, k ≤ l.length ∧ i = .int .i64 k ∧ Hid (idxAt (numIs num) l = (idxAt (numIs num) (l.drop k)) + (if 0 ≤ idxAt (numIs num) (l.drop k) then (k : Int) else 0))) (fun i _ => l.length - (intOf i).toNat)
  case atStart => exact ⟨rfl, 0, by omega, rfl, by simp [Hid]⟩
  case round =>
    obtain ⟨rfl, k, hk, rfl, hz⟩ := hrel
    by_cases hlt : k < l.length
    · have hki : (k : Int) < l.length := by omega
      have hnn : (0 : Int) ≤ k := by omega
      obtain ⟨b, off, D, dc, rfl, hb, g0, g1, g2, hD, hn1, hn2, _, _⟩ := h2'.snp hlt
      have hst := idxAt_drop (P := numIs num) hlt
      obtain ⟨x, hx⟩ : ∃ x, (l[k]'hlt).1 = x := ⟨_, rfl⟩
      have hP : numIs num (l[k]'hlt) = (x == num) := by rw [numIs, hx]
      rw [hP] at hst
      rw [hx] at g0
      have HST := Lib.hid hst
      clear hst hD hn1 hn2 hP hx
      by_cases hxn : x = num
      · have hq : (x == num) = true := by simp [hxn]
        have hE : Hid (idxAt (numIs num) l = k) := by
          rw [Hid, hz.out, HST.out, hq]; simp
        clear hxn
        go_wp2_with fail
        go_ret
        exact ⟨ret_int (by rw [← HR.out, hE.out]), hB0⟩
      · have hq : (x == num) = false := by simp [hxn]
        have hE : Hid (idxAt (numIs num) l = (idxAt (numIs num) (l.drop (k + 1))) + (if 0 ≤ idxAt (numIs num) (l.drop (k + 1)) then ((k + 1 : Nat) : Int) else 0)) := by
          rw [Hid, hz.out, HST.out, hq, if_neg (by decide : ¬ false = true)]
          rcases idxAt_cases (numIs num) (l.drop (k + 1)) with hp | hp
          · rw [hp]; simp
          · rw [if_pos hp, if_pos hp, if_pos (by omega)]; omega
        clear hxn
        go_wp2_with fail
        go_roundw
        case rel => exact ⟨by trivial, k + 1, hlt, by go_num, hE.out⟩
        case measure => simp [intOf]; omega
    · have hkk : k = l.length := by omega
      subst hkk
      have hE : Hid (idxAt (numIs num) l = -1) := by rw [Hid, hz.out, List.drop_length]; simp [idxAt]
      go_wp2_with fail
      go_ret
      exact ⟨ret_int (by rw [← HR.out, hE.out]), hB0⟩
set_option maxHeartbeats 1000000 in
theorem refFind_any (A A2 : Option Addr) (c c2 n m : Nat) (im : Img) (l : List Snp) (num : Int) (w : World) (hn : im.length = n) (hm : l.length = m) (h1 : SlAt (encSl encSec) w (Bl w.heap.size) A im) (h2 : SlAt encSnp w (Bl w.heap.size) A2 l) (hl1 : n ≤ 100000) (hl2 : m ≤ 9223372036854775807) :
    Calls Tryz.prog 53 #[.agg #[.slice A n c, .slice A2 m c2], .int .i64 num] w fun e w' => e = .returned (.tuple #[.int .i64 (findN (im, l) num : Nat), .int .i64 (findE (im, l) num)]) ∧ Below w.heap.size w w' := by
  subst hn hm
  have H1 : Hid (∀ w', Below w.heap.size w w' → SlAt (encSl encSec) w' (Bl w.heap.size) A im) := fun w' hb => h1.below hb
  have H2 : Hid (∀ w', Below w.heap.size w w' → SlAt encSnp w' (Bl w.heap.size) A2 l) := fun w' hb => h2.below hb
  clear h1 h2
  obtain ⟨W0, hW0⟩ : ∃ W0, w.alloc (.cells #[.slice A im.length c, .slice A2 l.length c2] 29) = W0 := ⟨_, rfl⟩
  have hB0 : Below w.heap.size w W0 := by rw [← hW0]; exact ext_alloc (Below.refl _ _)
  have hr0 : W0.heap[w.heap.size]? = some (.cells #[.slice A im.length c, .slice A2 l.length c2] 29 (0, 0)) := by rw [← hW0]; exact heap_alloc_new _ _
  have hs0 : w.heap.size < W0.heap.size := (Array.getElem?_eq_some_iff.1 hr0).1
  obtain ⟨r, hr⟩ : ∃ r, Hid (snE (im, l) = r) := ⟨_, rfl⟩
  have HCK := Lib.hid (refSnCheck_any A A2 c c2 im.length l.length im l r W0 rfl rfl hr.out ((H1.out W0 hB0).more (Bl.mono hB0.size)) ((H2.out W0 hB0).more (Bl.mono hB0.size)) hl1 hl2)
  obtain ⟨c0, c1, _⟩ := blk2 hr0
  go_enter Tryz.func53, Tryz.ntmps53
  go_wp2_with fail
  refine HCK.out.mono ?_
  rintro e w1 ⟨rfl, hb1⟩
  have hbw1 : Below w.heap.size w w1 := ext_trans hB0 hb1
  have hrp1 := (hb1.block w.heap.size (by omega)).trans hr0
  clear HCK hW0 hr0 c0 c1
  by_cases hx0 : r = 0
  case neg =>
    have hx0' : (r != 0) = true := by simp [hx0]
    have hE : Hid (findE (im, l) num = r) := by rw [Hid, findE, hr.out, if_pos hx0]
    have hN : Hid (findN (im, l) num = 0) := by rw [Hid, findN, if_neg (by rw [hE.out]; exact hx0)]
    clear hx0
    go_wp2_with fail
    go_ret2
    rw [hE.out, hN.out]
    exact ⟨rfl, hbw1⟩
  have hx0' : (r != 0) = false := by simp [hx0]
  have HOK : Hid (snE (im, l) = 0) := by rw [Hid, hr.out, hx0]
  clear hx0 hr
  obtain ⟨i, hi⟩ : ∃ i, Hid (idxAt (numIs num) l = i) := ⟨_, rfl⟩
  have HIX := Lib.hid (refFind0_any A A2 c c2 im.length l.length im l num i w1 rfl rfl hi.out ((H2.out w1 hbw1).more (Bl.mono hbw1.size)) hl2)
  obtain ⟨c0, c1, _⟩ := blk2 hrp1
  go_wp2_with fail
  refine HIX.out.mono ?_
  rintro e w2 ⟨rfl, hb2⟩
  have hbw2 : Below w.heap.size w w2 := ext_trans hbw1 hb2
  have hfi := idxAt_find (numIs num) l
  rw [hi.out] at hfi
  clear HIX c0 c1
  cases hq : l.findIdx? (numIs num) with
  | none =>
    rw [hq] at hfi
    have hE : Hid (findE (im, l) num = 7) := by
      have : findI l num = none := hq
      rw [Hid, findE, HOK.out, if_neg (by decide)]; show (if (findI l num).isNone = true then (7 : Int) else 0) = 7; rw [this]; rfl
    have hN : Hid (findN (im, l) num = 0) := by rw [Hid, findN, if_neg (by rw [hE.out]; decide)]
    simp only at hfi
    subst hfi
    clear hq
    go_wp2_with fail
    go_ret2
    rw [hE.out, hN.out]
    exact ⟨rfl, hbw2⟩
  | some k =>
    rw [hq] at hfi
    have hE : Hid (findE (im, l) num = 0) := by
      have : findI l num = some k := hq
      rw [Hid, findE, HOK.out, if_neg (by decide)]; show (if (findI l num).isNone = true then (7 : Int) else 0) = 0; rw [this]; rfl
    have hN : Hid (findN (im, l) num = k) := by
      have : findI l num = some k := hq
      rw [Hid, findN, if_pos hE.out]; show (findI l num).getD 0 = k; rw [this]; rfl
    simp only at hfi
    subst hfi
    have hkn : ¬ (k : Int) < 0 := by omega
    clear hq
    go_wp2_with fail
    go_ret2
    rw [hE.out, hN.out]
    exact ⟨rfl, hbw2⟩
theorem last_at {l : List Snp} {j : Nat} (h : l.length = j + 1) : lastN l = (l[j]'(by omega)).1 ∧ lastT l = (l[j]'(by omega)).2.1 := by
  have h1 := lastN_take (l := l) (k := j) (by omega)
  have h2 : l.take (j + 1) = l := by rw [← h, List.take_length]
  rw [h2] at h1
  exact h1
theorem snE_full {im : Img} {l : List Snp} (h : snE (im, l) = 0) : SnFull l := fun x hx y hy => by
  obtain ⟨h1, h2⟩ := snE_ok h
  exact (fits_ok h1 (h2 x hx y hy)).2.2.1
end Go.Proofs.YtnkmklnlaepdeaaGreat

namespace Go.Proofs.YtnkmklnlaepdeaaGreat
open Go.RowKit Go.Shelf
attribute [local go_sem] Oper.semAt_some

def contD (im : Img) (x : Wr) (j : Nat) : Wr := (x.1, x.2.1, ((contW im x).2.2).take j ++ x.2.2.drop j)
theorem contL_app (im : Img) (l m : List Wr) : contL im (l ++ m) = contL im l ++ contL im m := List.map_append ..
theorem kept_zero {im : Img} {l : List Wr} {k : Nat} (hk : k < l.length) : (contL im (l.take k) ++ l.drop k).set k (contD im l[k] 0) = contL im (l.take k) ++ l.drop k := by
  have h1 : (contL im (l.take k)).length = k := by simp [contL]; omega
  rw [List.set_append_right _ _ (by omega), h1, Nat.sub_self, List.drop_eq_getElem_cons hk, List.set_cons_zero]
  have e : contD im l[k] 0 = l[k] := by simp [contD]
  rw [e]
theorem kept_step {im : Img} {l : List Wr} {k j : Nat} (hk : k < l.length) (hc : (contW im l[k]).2.2.length = l[k].2.2.length) (hj : j < l[k].2.2.length) : (contD im l[k] j).2.2.set j ((contW im l[k]).2.2[j]'(by omega)) = (contD im l[k] (j + 1)).2.2 := by
  unfold contD
  simp only
  have h2 : (((contW im l[k]).2.2).take j).length = j := by simp; omega
  rw [List.set_append_right _ _ (by omega), h2, Nat.sub_self, List.drop_eq_getElem_cons hj, List.set_cons_zero, List.take_succ_eq_append_getElem (by omega), List.append_assoc]
  rfl
theorem kept_end {im : Img} {l : List Wr} {k : Nat} (hk : k < l.length) (hc : (contW im l[k]).2.2.length = l[k].2.2.length) : (contL im (l.take k) ++ l.drop k).set k (contD im l[k] l[k].2.2.length) = contL im (l.take (k + 1)) ++ l.drop (k + 1) := by
  have h1 : (contL im (l.take k)).length = k := by simp [contL]; omega
  rw [List.set_append_right _ _ (by omega), h1, Nat.sub_self, List.drop_eq_getElem_cons hk, List.set_cons_zero, List.take_succ_eq_append_getElem hk, contL_app, List.append_assoc]
  congr 1
  have : contD im l[k] l[k].2.2.length = contW im l[k] := by
    unfold contD
    rw [List.drop_length, List.append_nil, ← hc, List.take_length]
    rfl
  rw [this]
  rfl
end Go.Proofs.YtnkmklnlaepdeaaGreat

namespace Go.Proofs.YtnkmklnlaepdeaaGreat
open Go.RowKit Go.Shelf
attribute [local go_sem] Oper.semAt_some

set_option maxHeartbeats 2000000 in
set_option maxRecDepth 100000 in
theorem refOver_any (A D : Option Addr) (c d n m : Nat) (a b : List Wr) (w : World) (hn : a.length = n) (hm : b.length = m) (h1 : SlAt encWr w (Bl w.heap.size) A a) (h2 : SlAt encWr w (Bl w.heap.size) D b) (hl : n + m ≤ 100000) (hd : ∀ x ∈ a, 0 < x.2.2.length ∧ x.2.2.length ≤ 1000000) :
    Calls Tryz.prog 54 #[.slice A n c, .slice D m d] w (RetSl encWr (foldL (a ++ b)) w) := by
  subst hn hm
  have H2 : Hid (∀ w', Below w.heap.size w w' → SlAt encWr w' (Bl w.heap.size) D b) := fun w' hb => h2.below hb
  have HCW := Lib.hid (refCopyWrites_any A c a.length a w rfl h1 (by omega) hd)
  clear h1 h2 hd
  obtain ⟨cat, hcat⟩ : ∃ cat, Hid (a ++ b = cat) := ⟨_, rfl⟩
  have hcl : Hid (cat.length = a.length + b.length) := by rw [← hcat.out, Hid, List.length_append]
  obtain ⟨rr, hrr⟩ : ∃ rr, Hid (foldL cat = rr) := ⟨_, rfl⟩
  rw [hcat.out, hrr.out]
  go_enter Tryz.func54, Tryz.ntmps54
  go_wp2_with fail
  refine HCW.out.mono ?_
  rintro e w1 ⟨B, vc, xs, rfl, ho, hb1⟩
  have hlt1 := ho.own.lt
  have hO : Hid (Own encWr w1 w.heap.size 74 (fun g => g < w1.heap.size ∧ (Value.slice B a.length vc).ownBlock ≠ some g) (.slice B a.length vc) a) := ho.own.more (fun g hg => ⟨hg.1.2, hg.2⟩) (fun g hg hS => hS.2 hg)
  have hD : Hid (SlAt encWr w1 (fun g => g < w1.heap.size ∧ (Value.slice B a.length vc).ownBlock ≠ some g) D b) := (H2.out w1 hb1).more (fun g hg => ⟨Nat.lt_of_lt_of_le hg hb1.size, fun e => by have := (hlt1 g e).1; have h5 : g < w.heap.size := hg; omega⟩)
  clear ho HCW
  have hz1 := hb1.size
  go_wp2_with (at_builtin; refine Hid.out ?_)
  change wpList _ _ _ _ _ _
  refine wpList_appAll (E := encWr) tyWrs rfl _ _ rfl rfl hO.out (news := b) rfl rfl hD.out (fun _ h => h.1) hz1 (by unfold maxLen; omega) (by omega) ?_
  intro A2 c2 w2 hown2 hg2 hat2
  rw [hcat.out] at hown2
  have hb2 : Below w.heap.size w w2 := hb1.grown hg2 hz1 (fun g h => (hlt1 g h).1)
  obtain ⟨A', c', he, k1, k2, k3⟩ := hown2.reads (S' := Bl w2.heap.size) (fun g hg => Nat.lt_of_lt_of_le hg.1 hg2.size) (fun g hg => (hown2.lt g hg).2)
  simp only [List.cons.injEq, Value.slice.injEq, and_true] at he
  obtain ⟨rfl, hh, rfl⟩ := he
  clear hh
  have HF := Lib.hid (refFold_any A2 c2 cat w2 k3 (by rw [hcl.out]; omega))
  obtain ⟨en, hen⟩ : ∃ en, Hid (errOf placedN cat = en) := ⟨_, rfl⟩
  rw [hrr.out, hcl.out, hen.out] at HF
  clear k1 k2 hown2 hg2 hat2 k3 hlt1
  go_wp2_with fail
  refine HF.out.mono ?_
  rintro e w3 ⟨A3, c3, rfl, t1, t2, t3, hb3⟩
  have hz2 := hb2.size
  go_wp2
  go_ret
  exact ⟨A3, c3, rfl, t1, t2, t3.more (fun g hg => ⟨by have := hg.1; omega, hg.2⟩), ext_trans hb2 hb3⟩

theorem atL_step {im : Img} {l : List Snp} {k : Nat} (hk : k < l.length) : atL im (l.drop k) = putAll (atL im (l.drop (k + 1))) l[k].2.2 := by
  unfold atL
  rw [List.drop_eq_getElem_cons hk, List.reverse_cons, List.foldl_append]; rfl
theorem atL_end {im : Img} {l : List Snp} : atL im (l.drop l.length) = im := by rw [List.drop_length]; rfl
theorem atL_lens {im : Img} : ∀ {l : List Snp}, (∀ x ∈ l, ∀ y ∈ x.2.2, fitsN (lens im) y = 0) → lens (atL im l) = lens im
  | [], _ => rfl
  | x :: l, h => by
    have h1 : atL im (x :: l) = putAll (atL im l) x.2.2 := atL_step (l := x :: l) (k := 0) (by simp)
    have h2 := atL_lens (l := l) (fun y hy => h y (List.mem_cons_of_mem _ hy))
    rw [h1, putAll_lens (by rw [h2]; exact h x (List.mem_cons_self)), h2]
theorem applyL_ok {im : Img} {l : List Wr} (hz : sizesN (lens im) = 0) (hf : ∀ x ∈ l, fitsN (lens im) x = 0) : applyErr im l = 0 ∧ applyL im l = putAll im l := by
  have e1 : applyErr im l = 0 := by unfold applyErr; rw [if_neg (by rw [hz]; simp), errOf_zero hf]
  exact ⟨e1, by unfold applyL; rw [e1, if_pos rfl]⟩

end Go.Proofs.YtnkmklnlaepdeaaGreat

namespace Go.Proofs.YtnkmklnlaepdeaaGreat
open Go.RowKit Go.Shelf
attribute [local go_sem] Oper.semAt_some

theorem setLast_at {l : List Snp} {j : Nat} (h : l.length = j + 1) (f : List Wr → List Wr) : setLast l f = l.set j ((l[j]'(by omega)).1, (l[j]'(by omega)).2.1, f (l[j]'(by omega)).2.2) := by
  obtain rfl : j = l.length - 1 := by omega
  exact setLast_set (by omega) f
theorem OwnX.storeSv {X : Nat → Prop} {w : World} {lo g n c : Nat} {T : TypeId} {l : List Snp} (h : OwnX X encSnp w lo T (.slice (some ⟨g, 0, none⟩) n c) l) {i : Nat} (hi : i < l.length) {d : List Wr} {D : Option Addr} {dc : Nat}
    (h3 : d.length ≤ dc) (h4 : dc ≤ maxLen) (h5 : SlAt encWr w (fun b => Nw lo w.heap.size b ∧ ¬ X b ∧ b ≠ g) D d) :
    OwnX X encSnp (w.setCell ⟨g, i * 3 + 2, none⟩ (.slice D d.length dc)) lo T (.slice (some ⟨g, 0, none⟩) n c) (l.set i (l[i].1, l[i].2.1, d)) := by
  have hg : (Value.slice (some ⟨g, 0, none⟩) n c).ownBlock = some g := rfl
  refine ⟨?_, h.2⟩
  have h6 := h5.more (S' := fun b => Nw lo w.heap.size b ∧ ¬ X b ∧ (Value.slice (some ⟨g, 0, none⟩) n c).ownBlock ≠ some b) (fun b hb => ⟨hb.1, hb.2.1, by rw [hg]; intro e; injection e with e; exact hb.2.2 e.symm⟩)
  have := Own.stored (E := encSnp) h.1 (j := 2) hi (by decide) (.slice D d.length dc) (l[i].1, l[i].2.1, d) (fun cs hr => by
    obtain ⟨D', c', rfl, k1, k2, _, _, _⟩ := snp_cs hr
    exact snp_mk (x := (l[i].1, l[i].2.1, d)) k1 k2 h3 h4 h6)
  rw [show (w.setCell ⟨g, i * 3 + 2, none⟩ (.slice D d.length dc)).heap.size = w.heap.size by simp [World.setCell]]
  exact this
theorem OwnX.noX {α : Type} {X : Nat → Prop} {E : Enc α} {w : World} {lo n c : Nat} {T : TypeId} {A : Option Addr} {l : List α} (h : OwnX X E w lo T (.slice A n c) l) (hn : l.length = n) : OwnX (fun _ => False) E w lo T (.slice A l.length c) l := by
  rw [hn]; exact h.var (fun _ h => h.elim)
theorem contL_len {im : Img} {ws : List Wr} : (contL im ws).length = ws.length := by simp [contL]
theorem contL_data {im : Img} {ws : List Wr} (hz : sizesN (lens im) = 0) (hf : ∀ x ∈ ws, fitsN (lens im) x = 0) : ∀ x ∈ contL im ws, 0 < x.2.2.length ∧ x.2.2.length ≤ 1000000 := by
  intro x hx
  obtain ⟨y, hy, rfl⟩ := List.mem_map.1 hx
  have h1 := fits_ok hz (hf y hy)
  have h2 : (contW im y).2.2.length = y.2.2.length := contW_len (hf y hy)
  rw [h2]
  exact ⟨h1.2.2.1, by have := h1.2.2.2; omega⟩
theorem WrsOwn.sl {w : World} {lo : Nat} {B : Option Addr} {vc : Nat} {xs : List WB} {l : List Wr} (h : WrsOwn w lo B vc xs l) : SlAt encWr w (Bl w.heap.size) B l := by
  have hl := h.own.lt
  obtain ⟨A', c', he, k1, k2, k3⟩ := h.own.reads (S' := Bl w.heap.size) (fun g hg => hg.1.2) (fun g hg => (hl g hg).2)
  simp only [List.cons.injEq, Value.slice.injEq, and_true] at he
  obtain ⟨rfl, _, rfl⟩ := he
  exact k3
end Go.Proofs.YtnkmklnlaepdeaaGreat
