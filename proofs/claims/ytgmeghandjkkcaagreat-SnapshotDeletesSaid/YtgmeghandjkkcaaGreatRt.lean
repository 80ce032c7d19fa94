/-
  A sector stored; the reference's Fits, its copy of an image that it owns, its Apply.
-/
import Derived.Test.YtgmeghandjkkcaaGreatSy
import Derived.Test.YtgmeghandjkkcaaGreatIn
import Derived.BigQuiet
set_option linter.unusedVariables false
set_option linter.unusedSimpArgs false
set_option linter.unusedSectionVars false
set_option linter.unnecessarySimpa false
namespace Go.Proofs.YtgmeghandjkkcaaGreat
open Go.RowKit Go.Shelf
attribute [local go_sem] Oper.semAt_some

/-- a sector's eight cells stored -/
def st8 (w : World) (g k : Nat) (x0 x1 x2 x3 x4 x5 x6 x7 : Int) : World :=
  (((((((w.setCell ⟨g, k * 8, none⟩ (.int .u8 x0)).setCell ⟨g, k * 8 + 1, none⟩ (.int .u8 x1)).setCell ⟨g, k * 8 + 2, none⟩ (.int .u8 x2)).setCell ⟨g, k * 8 + 3, none⟩ (.int .u8 x3)).setCell ⟨g, k * 8 + 4, none⟩ (.int .u8 x4)).setCell ⟨g, k * 8 + 5, none⟩ (.int .u8 x5)).setCell ⟨g, k * 8 + 6, none⟩ (.int .u8 x6)).setCell ⟨g, k * 8 + 7, none⟩ (.int .u8 x7)
section
variable {w : World} {g k b : Nat} {x0 x1 x2 x3 x4 x5 x6 x7 : Int}
theorem st8_other (h : b ≠ g) : (st8 w g k x0 x1 x2 x3 x4 x5 x6 x7).heap[b]? = w.heap[b]? := by
  unfold st8
  exact (heap_setCell_other _ _ _ _ h).trans ((heap_setCell_other _ _ _ _ h).trans ((heap_setCell_other _ _ _ _ h).trans ((heap_setCell_other _ _ _ _ h).trans ((heap_setCell_other _ _ _ _ h).trans ((heap_setCell_other _ _ _ _ h).trans ((heap_setCell_other _ _ _ _ h).trans (heap_setCell_other _ _ _ _ h)))))))
theorem st8_size : (st8 w g k x0 x1 x2 x3 x4 x5 x6 x7).heap.size = w.heap.size := by simp [st8, World.setCell]
theorem st8_same : (st8 w g k x0 x1 x2 x3 x4 x5 x6 x7).os = w.os ∧ (st8 w g k x0 x1 x2 x3 x4 x5 x6 x7).tape = w.tape ∧ (st8 w g k x0 x1 x2 x3 x4 x5 x6 x7).output = w.output := by
  have h : Below 0 w (st8 w g k x0 x1 x2 x3 x4 x5 x6 x7) := by
    unfold st8
    exact ((((((((Below.refl 0 w).setCell (p := ⟨g, k * 8, none⟩) (Nat.zero_le _) _).setCell (p := ⟨g, k * 8 + 1, none⟩) (Nat.zero_le _) _).setCell (p := ⟨g, k * 8 + 2, none⟩) (Nat.zero_le _) _).setCell (p := ⟨g, k * 8 + 3, none⟩) (Nat.zero_le _) _).setCell (p := ⟨g, k * 8 + 4, none⟩) (Nat.zero_le _) _).setCell (p := ⟨g, k * 8 + 5, none⟩) (Nat.zero_le _) _).setCell (p := ⟨g, k * 8 + 6, none⟩) (Nat.zero_le _) _).setCell (p := ⟨g, k * 8 + 7, none⟩) (Nat.zero_le _) _
  exact ⟨h.os, h.tape, h.output⟩
theorem st8_grown : w.grownBy (st8 w g k x0 x1 x2 x3 x4 x5 x6 x7) (some g) :=
  ⟨st8_same.1, st8_same.2.1, st8_same.2.2, by rw [st8_size]; exact Nat.le_refl _, fun b _ hb => st8_other (fun e => hb (by rw [e]))⟩
theorem st8_below {lo : Nat} {w0 : World} (h : Below lo w0 w) (hg : lo ≤ g) : Below lo w0 (st8 w g k x0 x1 x2 x3 x4 x5 x6 x7) :=
  ⟨st8_same.1.trans h.os, st8_same.2.1.trans h.tape, st8_same.2.2.trans h.output, by rw [st8_size]; exact h.size, fun b hb => (st8_other (by omega)).trans (h.block b hb)⟩
end
theorem over_step {row news : List Sec} {s j : Nat} (h : s + news.length ≤ row.length) (hj : j < news.length) : (over row s (news.take j)).set (s + j) news[j] = over row s (news.take (j + 1)) := by
  unfold over
  rw [List.take_succ_eq_append_getElem hj]
  have h1 : (row.take s ++ news.take j).length = s + j := by simp; omega
  have h2 : (news.take j).length = j := by simp; omega
  have h3 : (news.take j ++ [news[j]]).length = j + 1 := by simp; omega
  rw [h2, h3]
  rw [List.set_append_right _ _ (by omega)]
  rw [h1, Nat.sub_self]
  rw [List.drop_eq_getElem_cons (by omega : s + j < row.length)]
  rw [List.set_cons_zero]
  have e : s + (j + 1) = s + j + 1 := by omega
  rw [e, List.append_assoc, List.append_assoc, List.append_assoc]
  rfl
set_option maxHeartbeats 1000000 in
theorem refFits07_any (A : Option Addr) (c n m : Nat) (im : Img) (v s : Int) (D : Option Addr) (dc : Nat) (data : List Sec) (r : Int) (w : World) (hn : im.length = n) (hm : data.length = m) (h1 : SlAt (encSl encSec) w (Bl w.heap.size) A im) (hl : n ≤ 1000000) (hd : m ≤ 9223372036854775807) (hv : I64 v) (hs2 : I64 s) (hz : sizesN (lens im) = 0) (hr : fitsN (lens im) (v, s, data) = r) :
    Calls Tryz.prog 74 #[.slice A n c, .agg #[.int .i64 v, .int .i64 s, .slice D m dc]] w fun e w' => e = .returned (.int .i64 r) ∧ Below w.heap.size w w' := by
  subst hn hm
  have H1 : Hid (∀ w', Below w.heap.size w w' → SlAt (encSl encSec) w' (Bl w'.heap.size) A im) := fun w' hb => h1.fwd hb
  obtain ⟨W0, hW0⟩ : ∃ W0, w.alloc (.cells #[.int .i64 v, .int .i64 s, .slice D data.length dc] 70) = W0 := ⟨_, rfl⟩
  have hB0 : Below w.heap.size w W0 := by rw [← hW0]; exact ext_alloc (Below.refl _ _)
  have hr0 : W0.heap[w.heap.size]? = some (.cells #[.int .i64 v, .int .i64 s, .slice D data.length dc] 70 (0, 0)) := by rw [← hW0]; exact heap_alloc_new _ _
  have hs0 : w.heap.size < W0.heap.size := (Array.getElem?_eq_some_iff.1 hr0).1
  have HCK := Lib.hid (refCheck07_any A c im.length im W0 rfl (H1.out W0 hB0) hl 0 hz)
  have HI := Lib.hid (And.intro hv hs2)
  have HR := Lib.hid hr
  clear h1 hv hs2 hr
  obtain ⟨r0, r1, r2, _⟩ := blk3 hr0
  go_enter Tryz.func74, Tryz.ntmps74
  go_wp2_with fail
  refine HCK.out.mono ?_
  rintro e w1 ⟨rfl, hb1⟩
  have hbw1 : Below w.heap.size w w1 := ext_trans hB0 hb1
  have hr1 := (hb1.block w.heap.size hs0).trans hr0
  clear HCK hW0 hr0 r0 r1 r2
  have hwl : w.heap.size < w1.heap.size := (Array.getElem?_eq_some_iff.1 hr1).1
  have HCC : Hid (∀ W, Below w1.heap.size w1 W → W.cell? ⟨w.heap.size, 0, none⟩ = some (.int .i64 v) ∧ W.cell? ⟨w.heap.size, 1, none⟩ = some (.int .i64 s) ∧ W.cell? ⟨w.heap.size, 2, none⟩ = some (.slice D data.length dc)) := fun W hb => by
    obtain ⟨a, b, c, _⟩ := blk3 ((hb.block _ hwl).trans hr1)
    exact ⟨a, b, c⟩
  have HSZ := Lib.hid (refSizesOf_any A c im.length im w1.drew rfl (H1.out w1.drew hbw1.drew) hl)
  have hll : (lens im).length = im.length := lens_len im
  have HFS : Hid (∀ W Z zc, SlAt encInt W (Nw w1.heap.size W.heap.size) Z (lens im) → Calls Tryz.prog 102 #[.slice Z im.length zc, .agg #[.int .i64 v, .int .i64 s, .slice D data.length dc]] W fun e w' => e = .returned (.int .i64 r) ∧ Below W.heap.size W w') := fun W Z zc hz => by
    have h := fits_any Z zc _ (lens im) v s D dc data W hz (by rw [hll]; omega) (fun b hb => hb.2) hd HI.out.1 HI.out.2
    rw [hll, HR.out] at h
    exact h
  have hc0 := HCC.out w1.drew (Below.refl _ _).drew
  go_upto_region 4 with (fail)
  go_region_held3 (fun W => W.cell? ⟨w.heap.size, 0, none⟩ = some (.int .i64 v) ∧ W.cell? ⟨w.heap.size, 1, none⟩ = some (.int .i64 s) ∧ W.cell? ⟨w.heap.size, 2, none⟩ = some (.slice D data.length dc)) (first | exact hc0 | exact HCC.out _ hx3 | exact HCC.out _ hx2 | go_keep) (first | (go_at_call 102; refine (HFS.out w2 Z zc s3).mono ?_; rintro e w3 ⟨rfl, hb3⟩; have hx3 : Below w1.heap.size w1 w3 := ext_trans hx2 hb3) | (go_at_call 72; refine HSZ.out.mono ?_; rintro e w2 ⟨Z, zc, rfl, s1, s2, s3, hb2⟩; have hx2 : Below w1.heap.size w1 w2 := bUn hb2; rw [hll]))
  go_wp2_with fail
  go_ret
  exact ⟨rfl, ext_trans hbw1 hx3⟩
theorem tyImageB : SliceTy Tryz.prog 23 66 encBlk.size 24 := sliceTy_mk (z := .slice none 0 0) Tryz.underlying23 (by kernel_rfl) rfl (by decide)
set_option maxHeartbeats 4000000 in
theorem refCopyOwn_any (A : Option Addr) (c n : Nat) (l : Img) (w : World) (hn : l.length = n) (h1 : SlAt (encSl encSec) w (Bl w.heap.size) A l) (hl : n ≤ 100000) (hne : ∀ r ∈ l, 0 < r.length ∧ r.length ≤ 1000000) :
    Calls Tryz.prog 73 #[.slice A n c] w fun e w' => ∃ B vc xs, e = .returned (.slice B n vc) ∧ ImgOwn w' w.heap.size B vc xs l ∧ Below w.heap.size w w' := by
  subst hn
  have H1 : Hid (∀ w', Below w.heap.size w w' → SlAt (encSl encSec) w' (Bl w.heap.size) A l) := fun w' hb => h1.below hb
  have HNE := Lib.hid hne
  clear h1 hne
  obtain ⟨n0, hn0⟩ : ∃ n0, w.heap.size = n0 := ⟨_, rfl⟩
  go_enter Tryz.func73, Tryz.ntmps73
  go_wp2
  go_loopw [3, 4] (fun v i wr => ∃ (k : Nat) (B : Option Addr) (vc : Nat) (xs : List (Nat × Nat × Nat)), k ≤ l.length ∧ i = .int .i64 k ∧ v = .slice B xs.length vc ∧ Below n0 w wr ∧ n0 ≤ wr.heap.size ∧ Hid (xs.length = k) ∧ Hid (ImgOwn wr n0 B vc xs (l.take k))) (fun _ i _ => l.length - (intOf i).toNat)
  case atStart => exact ⟨0, none, 0, [], by omega, rfl, rfl, Below.refl _ _, by omega, rfl, ⟨Own.nil_, rfl, fun _ h => by simp at h, List.nodup_nil⟩⟩
  case round =>
    obtain ⟨wo, rfl⟩ : ∃ wo : World, wo = wr := ⟨_, rfl⟩
    obtain ⟨k, B, vc, xs, hk, rfl, rfl, hB, hsz, hlen, hown⟩ := hrel
    by_cases hlt : k < l.length
    · have hnn : (0 : Int) ≤ k := by omega
      have hki : (k : Int) < l.length := by omega
      obtain ⟨b, off, D, dc, rfl, hb, g0, hD, hd1, hd2⟩ := (H1.out wo (by rw [hn0]; exact hB)).sl hlt
      obtain ⟨hp1, hp2⟩ := HNE.out l[k] (List.getElem_mem hlt)
      have hst : Hid (l.take (k + 1) = l.take k ++ [l[k]]) := List.take_succ_eq_append_getElem hlt
      obtain ⟨row, hrw⟩ : ∃ x, l[k] = x := ⟨_, rfl⟩
      rw [hrw] at g0 hD hd1 hp1 hp2 hst
      have HD := Lib.hid (hD.more (S' := fun g => g < wo.heap.size) (fun g hg => by have : g < w.heap.size := hg; omega))
      have hol : xs.length ≤ 100000 := by rw [hlen.out]; omega
      clear hrw hD
      go_wp2_with (at_builtin; refine Hid.out ?_)
      change wpList _ _ _ _ _ _
      refine wpList_appAll (E := encSec) tySecs36 rfl _ _ rfl rfl (Own.nil_ (w := wo) (base := wo.heap.size) (e := 65) (S := fun g => g < wo.heap.size)) (news := row) rfl rfl HD.out (fun _ h => h) (Nat.le_refl _) (by unfold maxLen; simp; omega) (by simp; omega) ?_
      intro A4 c4 w4 hown4 hg4 hat4
      have hown4' : Own encSec w4 wo.heap.size 65 (fun g => g < wo.heap.size) (.slice A4 row.length c4) row := by simpa using hown4
      have hg4' : wo.grownBy w4 none := hg4
      have hx4 : Below wo.heap.size wo w4 := (Below.refl _ _).grown hg4' (Nat.le_refl _) (fun k e => by cases e)
      have hfl := Own.flat hown4' (fun h => h)
      obtain ⟨g, _, rfl, _⟩ := hfl.elem (i := 0) (by omega)
      have hr4 : Hid (RowOf w4 wo.heap.size (g, row.length, c4) row) := hfl
      have hgn : wo.heap.size ≤ g := hr4.out.ty.1
      have hz4 := hx4.size
      have HO2 := Lib.hid (hown.out.below (hx4.trans (ext_alloc (o := .cells #[.slice (some ⟨g, 0, none⟩) row.length c4] 66) (Below.refl w4.heap.size w4) |>.mono hz4)))
      have HRD : Hid (encBlk.rd (w4.alloc (.cells #[.slice (some ⟨g, 0, none⟩) row.length c4] 66)) (fun _ => False) [.slice (some ⟨g, 0, none⟩) row.length c4] (g, row.length, c4)) := ⟨rfl, hr4.out.ty.2.2.2.1, hr4.out.ty.2.2.2.2.1⟩
      clear hown4 hg4 hat4 hown4' hg4' hfl
      simp only [List.length_nil, Nat.zero_add]
      go_wp2_with (at_builtin; refine Hid.out ?_)
      change wpList _ _ _ _ _ _
      refine wpList_app1 (E := encBlk) tyImageB rfl _ _ rfl rfl HO2.out.outer (g, row.length, c4) _ rfl HRD.out (heap_alloc_new _ _) (fun _ h => h.elim) (by simp; omega) (by unfold maxLen; omega) (by omega) ?_
      intro A5 c5 w5 hown5 hg5 hat5
      have hfin : Hid (ImgOwn w5 n0 A5 c5 (xs ++ [(g, row.length, c4)]) (l.take (k + 1))) := by
        rw [Hid, hst.out]
        refine HO2.out.snoc (x := (g, row.length, c4)) ((hr4.out.base hsz).blk ((Below.heap_alloc _ _ _ hr4.out.ty.2.1))) (fun y hy => ?_) hown5 hg5
        obtain ⟨j, hj, rfl⟩ := List.mem_iff_getElem.1 hy
        have := (hown.out.rows j hj (by rw [← hown.out.len]; exact hj)).ty.2.1
        simp only
        omega
      have hz5 := hg5.size
      have hB5 : Below n0 w w5 := (((hB.trans (hx4.mono hsz))).alloc (by omega) (.cells #[.slice (some ⟨g, 0, none⟩) row.length c4] 66)).grown hg5 (by simp; omega) (fun b h => (hown.out.outer.lt b h).1)
      have hz6 : n0 ≤ w5.heap.size := by simp at hz5; omega
      clear hown5 hg5 hat5 HO2 HRD hz5
      go_wp2
      go_roundw
      case rel => exact ⟨k + 1, A5, c5, xs ++ [(g, row.length, c4)], hlt, by go_num, by simp, hB5, hz6, by rw [Hid, List.length_append, hlen.out]; rfl, hfin.out⟩
      case measure => simp [intOf]; omega
    · have hkk : k = l.length := by omega
      subst hkk
      have ho := hown.out
      rw [List.take_length] at ho
      have HO := Lib.hid ho
      clear ho
      go_wp2
      go_ret
      exact ⟨B, vc, xs, by show Ending.returned (.slice B xs.length vc) = Ending.returned (.slice B l.length vc); rw [HO.out.len], by rw [hn0]; exact HO.out, by rw [hn0]; exact hB⟩
end Go.Proofs.YtgmeghandjkkcaaGreat
