/-
  Owned lists of sectors: stores; append of all elements at a step of a region that draws its order. No program in sight.; A sector stored; the reference's Fits, its copy of an image that it owns, its Apply.
-/
import Derived.BigRegion
import Derived.BigQuiet
import Derived.Test.YtgndgkjefgjamaaGreatZ01
import Derived.Test.YtgndgkjefgjamaaGreatZ02
import Derived.Test.YtgndgkjefgjamaaGreatZ03
import Derived.Test.YtgndgkjefgjamaaGreatZ04
import Derived.Test.YtgndgkjefgjamaaGreatZ05
import Derived.Test.YtgndgkjefgjamaaGreatZ06
import Derived.Test.YtgndgkjefgjamaaGreatZ07
import Derived.Test.YtgndgkjefgjamaaGreatZ08
import Derived.Test.YtgndgkjefgjamaaGreatZ09
import Derived.Test.YtgndgkjefgjamaaGreatZ10
import Derived.Test.YtgndgkjefgjamaaGreatZ12
import Derived.Test.YtgndgkjefgjamaaGreatZ18
set_option linter.unusedVariables false
set_option linter.unusedSimpArgs false
set_option linter.unusedSectionVars false
set_option linter.unnecessarySimpa false
namespace Go.Proofs.YtgndgkjefgjamaaGreat
open Go.RowKit Go.Shelf
attribute [local go_sem] Oper.semAt_some

theorem flatten_set8 : ∀ (css : List (List Value)) (k : Nat) (v0 v1 v2 v3 v4 v5 v6 v7 : Value), (∀ cs ∈ css, cs.length = 8) → k < css.length →
    (css.set k [v0, v1, v2, v3, v4, v5, v6, v7]).flatten = (((((((css.flatten.set (k * 8) v0).set (k * 8 + 1) v1).set (k * 8 + 2) v2).set (k * 8 + 3) v3).set (k * 8 + 4) v4).set (k * 8 + 5) v5).set (k * 8 + 6) v6).set (k * 8 + 7) v7
  | [], k, _, _, _, _, _, _, _, _, _, hk => by simp at hk
  | cs :: css, 0, v0, v1, v2, v3, v4, v5, v6, v7, h, _ => by
    have h8 := h cs (by simp)
    match cs, h8 with
    | [a, b, c, d, e, f, g, i], _ => simp
  | cs :: css, k + 1, v0, v1, v2, v3, v4, v5, v6, v7, h, hk => by
    have h8 := h cs (by simp)
    have ih := flatten_set8 css k v0 v1 v2 v3 v4 v5 v6 v7 (fun x hx => h x (by simp [hx])) (by simpa using hk)
    have e : ∀ j (l : List Value) v, (cs ++ l).set ((k + 1) * 8 + j) v = cs ++ l.set (k * 8 + j) v := fun j l v => by
      rw [List.set_append_right _ _ (by omega)]
      congr 2; omega
    have e0 : ∀ (l : List Value) v, (cs ++ l).set ((k + 1) * 8) v = cs ++ l.set (k * 8) v := fun l v => by simpa using e 0 l v
    rw [List.set_cons_succ, List.flatten_cons, List.flatten_cons, ih, e0, e, e, e, e, e, e, e]
theorem All2_secs {w : World} {S : Nat → Prop} : ∀ {css : List (List Value)} {l : List Sec}, All2 (encSec.rd w S) css l → ∀ w' S', All2 (encSec.rd w' S') css l
  | [], [], _, _, _ => trivial
  | [], _ :: _, h, _, _ => h.elim
  | _ :: _, [], h, _, _ => h.elim
  | cs :: css, x :: l, h, w', S' => ⟨h.1, All2_secs h.2 w' S'⟩
/-- a sector more in an owned list -/
theorem Own.setSec {w : World} {base g n c : Nat} {e : TypeId} {l : List Sec} (h : Own encSec w base e (fun _ => False) (.slice (some ⟨g, 0, none⟩) n c) l) (hn : l.length = n) {k : Nat} (hk : k < l.length) {x0 x1 x2 x3 x4 x5 x6 x7 : Int} (hs : OkSec [x0, x1, x2, x3, x4, x5, x6, x7]) :
    Own encSec ((((((((w.setCell ⟨g, k * 8, none⟩ (.int .u8 x0)).setCell ⟨g, k * 8 + 1, none⟩ (.int .u8 x1)).setCell ⟨g, k * 8 + 2, none⟩ (.int .u8 x2)).setCell ⟨g, k * 8 + 3, none⟩ (.int .u8 x3)).setCell ⟨g, k * 8 + 4, none⟩ (.int .u8 x4)).setCell ⟨g, k * 8 + 5, none⟩ (.int .u8 x5)).setCell ⟨g, k * 8 + 6, none⟩ (.int .u8 x6)).setCell ⟨g, k * 8 + 7, none⟩ (.int .u8 x7)) base e (fun _ => False) (.slice (some ⟨g, 0, none⟩) n c) (l.set k [x0, x1, x2, x3, x4, x5, x6, x7]) := by
  obtain ⟨css, h1, h2, h3⟩ := h
  subst hn
  have hsz := All2.sizes h2
  have hkc : k < css.length := by rw [h2.length]; exact hk
  have r1 := (h1.stored (k * 8) (.int .u8 x0)).1
  have r2 := (r1.stored (k * 8 + 1) (.int .u8 x1)).1
  have r3 := (r2.stored (k * 8 + 2) (.int .u8 x2)).1
  have r4 := (r3.stored (k * 8 + 3) (.int .u8 x3)).1
  have r5 := (r4.stored (k * 8 + 4) (.int .u8 x4)).1
  have r6 := (r5.stored (k * 8 + 5) (.int .u8 x5)).1
  have r7 := (r6.stored (k * 8 + 6) (.int .u8 x6)).1
  have r8 := (r7.stored (k * 8 + 7) (.int .u8 x7)).1
  rw [← flatten_set8 css k _ _ _ _ _ _ _ _ hsz hkc] at r8
  refine ⟨css.set k [.int .u8 x0, .int .u8 x1, .int .u8 x2, .int .u8 x3, .int .u8 x4, .int .u8 x5, .int .u8 x6, .int .u8 x7], ?_, All2.set (All2_secs h2 _ _) ⟨rfl, hs⟩, h3⟩
  rw [List.length_set]; exact r8
theorem Own.cellSec {w : World} {base g n c : Nat} {e : TypeId} {l : List Sec} (h : Own encSec w base e (fun _ => False) (.slice (some ⟨g, 0, none⟩) n c) l) (hn : l.length = n) {k : Nat} (hk : k < l.length) :
    (∀ r, r < 8 → ∃ u, w.cell? ⟨g, k * 8 + r, none⟩ = some u) ∧ ∀ j, w.frozen? ⟨g, j, none⟩ = false := by
  obtain ⟨css, h1, h2, h3⟩ := h
  subst hn
  have hsz := All2.sizes h2
  have hlen : css.flatten.length = l.length * 8 := by rw [flatten_len 8 css hsz, h2.length]
  refine ⟨fun r hr => ?_, fun j => h1.frozenAt j⟩
  have hlt : k * 8 + r < l.length * 8 := by omega
  refine ⟨css.flatten[k * 8 + r]'(by omega), ?_⟩
  rw [h1.cellAt (k * 8 + r) hlt, List.getElem?_eq_getElem]
end Go.Proofs.YtgndgkjefgjamaaGreat

namespace Go.Proofs.YtgndgkjefgjamaaGreat
open Go.RowKit Go.Shelf
attribute [local go_sem] Oper.semAt_some

section
variable {w w' : World} {lo : Nat} {A : Option Addr} {c : Nat} {xs : List WB} {l : List Wr}
end
end Go.Proofs.YtgndgkjefgjamaaGreat
namespace Go.Proofs.YtgndgkjefgjamaaGreat
open Go.RowKit Go.Shelf
attribute [local go_sem] Oper.semAt_some

/-- a sector's eight cells stored -/
def st8 (w : World) (g k : Nat) (x0 x1 x2 x3 x4 x5 x6 x7 : Int) : World :=
  (((((((w.setCell ⟨g, k * 8, none⟩ (.int .u8 x0)).setCell ⟨g, k * 8 + 1, none⟩ (.int .u8 x1)).setCell ⟨g, k * 8 + 2, none⟩ (.int .u8 x2)).setCell ⟨g, k * 8 + 3, none⟩ (.int .u8 x3)).setCell ⟨g, k * 8 + 4, none⟩ (.int .u8 x4)).setCell ⟨g, k * 8 + 5, none⟩ (.int .u8 x5)).setCell ⟨g, k * 8 + 6, none⟩ (.int .u8 x6)).setCell ⟨g, k * 8 + 7, none⟩ (.int .u8 x7)
section
variable {w : World} {g k b : Nat} {x0 x1 x2 x3 x4 x5 x6 x7 : Int}
theorem st8_other (h : b ≠ g) : (st8 w g k x0 x1 x2 x3 x4 x5 x6 x7).heap[b]? = w.heap[b]? := by
  unfold st8
  exact (heap_setCell_other _ _ _ _ h).trans ((heap_setCell_other _ _ _ _ h).trans ((heap_setCell_other _ _ _ _ h).trans ((heap_setCell_other _ _ _ _ h).trans ((heap_setCell_other _ _ _ _ h).trans ((heap_setCell_other _ _ _ _ h).trans ((heap_setCell_other _ _ _ _ h).trans (heap_setCell_other _ _ _ _ h)))))))
theorem st8_size : (st8 w g k x0 x1 x2 x3 x4 x5 x6 x7).heap.size = w.heap.size := by simp [st8, World.setCell]
theorem st8_same : (st8 w g k x0 x1 x2 x3 x4 x5 x6 x7).os = w.os ∧ (st8 w g k x0 x1 x2 x3 x4 x5 x6 x7).tape = w.tape ∧ (st8 w g k x0 x1 x2 x3 x4 x5 x6 x7).output = w.output := by
  have h : Below 0 w (st8 w g k x0 x1 x2 x3 x4 x5 x6 x7) := by
    unfold st8
    exact ((((((((Below.refl 0 w).setCell (p := ⟨g, k * 8, none⟩) (Nat.zero_le _) _).setCell (p := ⟨g, k * 8 + 1, none⟩) (Nat.zero_le _) _).setCell (p := ⟨g, k * 8 + 2, none⟩) (Nat.zero_le _) _).setCell (p := ⟨g, k * 8 + 3, none⟩) (Nat.zero_le _) _).setCell (p := ⟨g, k * 8 + 4, none⟩) (Nat.zero_le _) _).setCell (p := ⟨g, k * 8 + 5, none⟩) (Nat.zero_le _) _).setCell (p := ⟨g, k * 8 + 6, none⟩) (Nat.zero_le _) _).setCell (p := ⟨g, k * 8 + 7, none⟩) (Nat.zero_le _) _
  exact ⟨h.os, h.tape, h.output⟩
theorem st8_grown : w.grownBy (st8 w g k x0 x1 x2 x3 x4 x5 x6 x7) (some g) :=
  ⟨st8_same.1, st8_same.2.1, st8_same.2.2, by rw [st8_size]; exact Nat.le_refl _, fun b _ hb => st8_other (fun e => hb (by rw [e]))⟩
theorem st8_below {lo : Nat} {w0 : World} (h : Below lo w0 w) (hg : lo ≤ g) : Below lo w0 (st8 w g k x0 x1 x2 x3 x4 x5 x6 x7) :=
  ⟨st8_same.1.trans h.os, st8_same.2.1.trans h.tape, st8_same.2.2.trans h.output, by rw [st8_size]; exact h.size, fun b hb => (st8_other (by omega)).trans (h.block b hb)⟩
end
theorem over_step {row news : List Sec} {s j : Nat} (h : s + news.length ≤ row.length) (hj : j < news.length) : (over row s (news.take j)).set (s + j) news[j] = over row s (news.take (j + 1)) := by
  unfold over
  rw [List.take_succ_eq_append_getElem hj]
  have h1 : (row.take s ++ news.take j).length = s + j := by simp; omega
  have h2 : (news.take j).length = j := by simp; omega
  have h3 : (news.take j ++ [news[j]]).length = j + 1 := by simp; omega
  rw [h2, h3]
  rw [List.set_append_right _ _ (by omega)]
  rw [h1, Nat.sub_self]
  rw [List.drop_eq_getElem_cons (by omega : s + j < row.length)]
  rw [List.set_cons_zero]
  have e : s + (j + 1) = s + j + 1 := by omega
  rw [e, List.append_assoc, List.append_assoc, List.append_assoc]
  rfl
set_option maxHeartbeats 1000000 in
theorem refFits07_any (A : Option Addr) (c n m : Nat) (im : Img) (v s : Int) (D : Option Addr) (dc : Nat) (data : List Sec) (r : Int) (w : World) (hn : im.length = n) (hm : data.length = m) (h1 : SlAt (encSl encSec) w (Bl w.heap.size) A im) (hl : n ≤ 1000000) (hd : m ≤ 9223372036854775807) (hv : I64 v) (hs2 : I64 s) (hz : sizesN (lens im) = 0) (hr : fitsN (lens im) (v, s, data) = r) :
    Calls Tryz.prog 65 #[.slice A n c, .agg #[.int .i64 v, .int .i64 s, .slice D m dc]] w fun e w' => e = .returned (.int .i64 r) ∧ Below w.heap.size w w' := by
  subst hn hm
  have H1 : Hid (∀ w', Below w.heap.size w w' → SlAt (encSl encSec) w' (Bl w'.heap.size) A im) := fun w' hb => h1.fwd hb
  obtain ⟨W0, hW0⟩ : ∃ W0, w.alloc (.cells #[.int .i64 v, .int .i64 s, .slice D data.length dc] 45) = W0 := ⟨_, rfl⟩
  have hB0 : Below w.heap.size w W0 := by rw [← hW0]; exact ext_alloc (Below.refl _ _)
  have hr0 : W0.heap[w.heap.size]? = some (.cells #[.int .i64 v, .int .i64 s, .slice D data.length dc] 45 (0, 0)) := by rw [← hW0]; exact heap_alloc_new _ _
  have hs0 : w.heap.size < W0.heap.size := (Array.getElem?_eq_some_iff.1 hr0).1
  have HCK := Lib.hid (refCheck07_any A c im.length im W0 rfl (H1.out W0 hB0) hl 0 hz)
  have HI := Lib.hid (And.intro hv hs2)
  have HR := Lib.hid hr
  clear h1 hv hs2 hr
  obtain ⟨r0, r1, r2, _⟩ := blk3 hr0
  go_enter Tryz.func65, Tryz.ntmps65
  go_wp2_with fail
  refine HCK.out.mono ?_
  rintro e w1 ⟨rfl, hb1⟩
  have hbw1 : Below w.heap.size w w1 := ext_trans hB0 hb1
  have hr1 := (hb1.block w.heap.size hs0).trans hr0
  clear HCK hW0 hr0 r0 r1 r2
  have hwl : w.heap.size < w1.heap.size := (Array.getElem?_eq_some_iff.1 hr1).1
  have HCC : Hid (∀ W, Below w1.heap.size w1 W → W.cell? ⟨w.heap.size, 0, none⟩ = some (.int .i64 v) ∧ W.cell? ⟨w.heap.size, 1, none⟩ = some (.int .i64 s) ∧ W.cell? ⟨w.heap.size, 2, none⟩ = some (.slice D data.length dc)) := fun W hb => by
    obtain ⟨a, b, c, _⟩ := blk3 ((hb.block _ hwl).trans hr1)
    exact ⟨a, b, c⟩
  have HSZ := Lib.hid (refSizesOf_any A c im.length im w1.drew rfl (H1.out w1.drew hbw1.drew) hl)
  have hll : (lens im).length = im.length := lens_len im
  have HFS : Hid (∀ W Z zc, SlAt encInt W (Nw w1.heap.size W.heap.size) Z (lens im) → Calls Tryz.prog 116 #[.slice Z im.length zc, .agg #[.int .i64 v, .int .i64 s, .slice D data.length dc]] W fun e w' => e = .returned (.int .i64 r) ∧ Below W.heap.size W w') := fun W Z zc hz => by
    have h := fits_any Z zc _ (lens im) v s D dc data W hz (by rw [hll]; omega) (fun b hb => hb.2) hd HI.out.1 HI.out.2
    rw [hll, HR.out] at h
    exact h
  have hc0 := HCC.out w1.drew (Below.refl _ _).drew
  go_upto_region 4 with (fail)
  go_region_held3 (fun W => W.cell? ⟨w.heap.size, 0, none⟩ = some (.int .i64 v) ∧ W.cell? ⟨w.heap.size, 1, none⟩ = some (.int .i64 s) ∧ W.cell? ⟨w.heap.size, 2, none⟩ = some (.slice D data.length dc)) (first | exact hc0 | exact HCC.out _ hx3 | exact HCC.out _ hx2 | go_keep) (first | (go_at_call 116; refine (HFS.out w2 Z zc s3).mono ?_; rintro e w3 ⟨rfl, hb3⟩; have hx3 : Below w1.heap.size w1 w3 := ext_trans hx2 hb3) | (go_at_call 60; refine HSZ.out.mono ?_; rintro e w2 ⟨Z, zc, rfl, s1, s2, s3, hb2⟩; have hx2 : Below w1.heap.size w1 w2 := bUn hb2; rw [hll]))
  go_wp2_with fail
  go_ret
  exact ⟨rfl, ext_trans hbw1 hx3⟩
theorem tyImageB : SliceTy Tryz.prog 23 43 encBlk.size 24 := sliceTy_mk (z := .slice none 0 0) Tryz.underlying23 (by kernel_rfl) rfl (by decide)
set_option maxHeartbeats 4000000 in
theorem refCopyOwn_any (A : Option Addr) (c n : Nat) (l : Img) (w : World) (hn : l.length = n) (h1 : SlAt (encSl encSec) w (Bl w.heap.size) A l) (hl : n ≤ 100000) (hne : ∀ r ∈ l, 0 < r.length ∧ r.length ≤ 1000000) :
    Calls Tryz.prog 126 #[.slice A n c] w fun e w' => ∃ B vc xs, e = .returned (.slice B n vc) ∧ ImgOwn w' w.heap.size B vc xs l ∧ Below w.heap.size w w' := by
  subst hn
  have H1 : Hid (∀ w', Below w.heap.size w w' → SlAt (encSl encSec) w' (Bl w.heap.size) A l) := fun w' hb => h1.below hb
  have HNE := Lib.hid hne
  clear h1 hne
  obtain ⟨n0, hn0⟩ : ∃ n0, w.heap.size = n0 := ⟨_, rfl⟩
  go_enter Tryz.func126, Tryz.ntmps126
  go_wp2
  go_loopw [3, 4] (fun v i wr => ∃ (k : Nat) (B : Option Addr) (vc : Nat) (xs : List (Nat × Nat × Nat)), k ≤ l.length ∧ i = .int .i64 k ∧ v = .slice B xs.length vc ∧ Below n0 w wr ∧ n0 ≤ wr.heap.size ∧ Hid (xs.length = k) ∧ Hid (ImgOwn wr n0 B vc xs (l.take k))) (fun _ i _ => l.length - (intOf i).toNat)
  case atStart => exact ⟨0, none, 0, [], by omega, rfl, rfl, Below.refl _ _, by omega, rfl, ⟨Own.nil_, rfl, fun _ h => by simp at h, List.nodup_nil⟩⟩
  case round =>
    obtain ⟨wo, rfl⟩ : ∃ wo : World, wo = wr := ⟨_, rfl⟩
    obtain ⟨k, B, vc, xs, hk, rfl, rfl, hB, hsz, hlen, hown⟩ := hrel
    by_cases hlt : k < l.length
    · have hnn : (0 : Int) ≤ k := by omega
      have hki : (k : Int) < l.length := by omega
      obtain ⟨b, off, D, dc, rfl, hb, g0, hD, hd1, hd2⟩ := (H1.out wo (by rw [hn0]; exact hB)).sl hlt
      obtain ⟨hp1, hp2⟩ := HNE.out l[k] (List.getElem_mem hlt)
      have hst : Hid (l.take (k + 1) = l.take k ++ [l[k]]) := List.take_succ_eq_append_getElem hlt
      obtain ⟨row, hrw⟩ : ∃ x, l[k] = x := ⟨_, rfl⟩
      rw [hrw] at g0 hD hd1 hp1 hp2 hst
      have HD := Lib.hid (hD.more (S' := fun g => g < wo.heap.size) (fun g hg => by have : g < w.heap.size := hg; omega))
      have hol : xs.length ≤ 100000 := by rw [hlen.out]; omega
      clear hrw hD
      go_wp2_with (at_builtin; refine Hid.out ?_)
      change wpList _ _ _ _ _ _
      refine wpList_appAll (E := encSec) tySecs36 rfl _ _ rfl rfl (Own.nil_ (w := wo) (base := wo.heap.size) (e := 95) (S := fun g => g < wo.heap.size)) (news := row) rfl rfl HD.out (fun _ h => h) (Nat.le_refl _) (by unfold maxLen; simp; omega) (by simp; omega) ?_
      intro A4 c4 w4 hown4 hg4 hat4
      have hown4' : Own encSec w4 wo.heap.size 95 (fun g => g < wo.heap.size) (.slice A4 row.length c4) row := by simpa using hown4
      have hg4' : wo.grownBy w4 none := hg4
      have hx4 : Below wo.heap.size wo w4 := (Below.refl _ _).grown hg4' (Nat.le_refl _) (fun k e => by cases e)
      have hfl := Own.flat hown4' (fun h => h)
      obtain ⟨g, _, rfl, _⟩ := hfl.elem (i := 0) (by omega)
      have hr4 : Hid (RowOf w4 wo.heap.size (g, row.length, c4) row) := hfl
      have hgn : wo.heap.size ≤ g := hr4.out.ty.1
      have hz4 := hx4.size
      have HO2 := Lib.hid (hown.out.below (hx4.trans (ext_alloc (o := .cells #[.slice (some ⟨g, 0, none⟩) row.length c4] 43) (Below.refl w4.heap.size w4) |>.mono hz4)))
      have HRD : Hid (encBlk.rd (w4.alloc (.cells #[.slice (some ⟨g, 0, none⟩) row.length c4] 43)) (fun _ => False) [.slice (some ⟨g, 0, none⟩) row.length c4] (g, row.length, c4)) := ⟨rfl, hr4.out.ty.2.2.2.1, hr4.out.ty.2.2.2.2.1⟩
      clear hown4 hg4 hat4 hown4' hg4' hfl
      simp only [List.length_nil, Nat.zero_add]
      go_wp2_with (at_builtin; refine Hid.out ?_)
      change wpList _ _ _ _ _ _
      refine wpList_app1 (E := encBlk) tyImageB rfl _ _ rfl rfl HO2.out.outer (g, row.length, c4) _ rfl HRD.out (heap_alloc_new _ _) (fun _ h => h.elim) (by simp; omega) (by unfold maxLen; omega) (by omega) ?_
      intro A5 c5 w5 hown5 hg5 hat5
      have hfin : Hid (ImgOwn w5 n0 A5 c5 (xs ++ [(g, row.length, c4)]) (l.take (k + 1))) := by
        rw [Hid, hst.out]
        refine HO2.out.snoc (x := (g, row.length, c4)) ((hr4.out.base hsz).blk ((Below.heap_alloc _ _ _ hr4.out.ty.2.1))) (fun y hy => ?_) hown5 hg5
        obtain ⟨j, hj, rfl⟩ := List.mem_iff_getElem.1 hy
        have := (hown.out.rows j hj (by rw [← hown.out.len]; exact hj)).ty.2.1
        simp only
        omega
      have hz5 := hg5.size
      have hB5 : Below n0 w w5 := (((hB.trans (hx4.mono hsz))).alloc (by omega) (.cells #[.slice (some ⟨g, 0, none⟩) row.length c4] 43)).grown hg5 (by simp; omega) (fun b h => (hown.out.outer.lt b h).1)
      have hz6 : n0 ≤ w5.heap.size := by simp at hz5; omega
      clear hown5 hg5 hat5 HO2 HRD hz5
      go_wp2
      go_roundw
      case rel => exact ⟨k + 1, A5, c5, xs ++ [(g, row.length, c4)], hlt, by go_num, by simp, hB5, hz6, by rw [Hid, List.length_append, hlen.out]; rfl, hfin.out⟩
      case measure => simp [intOf]; omega
    · have hkk : k = l.length := by omega
      subst hkk
      have ho := hown.out
      rw [List.take_length] at ho
      have HO := Lib.hid ho
      clear ho
      go_wp2
      go_ret
      exact ⟨B, vc, xs, by show Ending.returned (.slice B xs.length vc) = Ending.returned (.slice B l.length vc); rw [HO.out.len], by rw [hn0]; exact HO.out, by rw [hn0]; exact hB⟩
end Go.Proofs.YtgndgkjefgjamaaGreat

namespace Go.Proofs.YtgndgkjefgjamaaGreat
open Go.RowKit Go.Shelf
attribute [local go_sem] Oper.semAt_some

set_option maxHeartbeats 8000000 in
set_option maxRecDepth 100000 in
theorem refApply07_any (A A2 : Option Addr) (c c2 n m : Nat) (im : Img) (l : List Wr) (w : World) (hn : im.length = n) (hm : l.length = m) (h1 : SlAt (encSl encSec) w (Bl w.heap.size) A im) (hl : n ≤ 100000) (h2 : SlAt encWr w (Bl w.heap.size) A2 l) (hl2 : m ≤ 9223372036854775807) :
    Calls Tryz.prog 70 #[.slice A n c, .slice A2 m c2] w (ApplyRet (applyL im l) (applyErr im l) w) := by
  subst hn hm
  have H1 := Lib.hid h1
  have H2 : Hid (∀ w', Below w.heap.size w w' → SlAt encWr w' (Bl w.heap.size) A2 l) := fun w' hb => h2.below hb
  clear h1 h2
  obtain ⟨es, hes⟩ : ∃ es, Hid (sizesN (lens im) = es) := ⟨_, Lib.hid rfl⟩
  have HC := Lib.hid (refCheck07_any A c im.length im w rfl H1.out (by omega) es hes.out)
  go_enter Tryz.func70, Tryz.ntmps70
  go_wp2_with fail
  refine HC.out.mono ?_
  rintro e w1 ⟨rfl, hb1⟩
  clear HC
  by_cases he : es = 0
  case neg =>
    have he1 : (es != 0) = true := by simp [he]
    have hap : Hid (applyErr im l = es ∧ applyL im l = []) := by
      have e1 : applyErr im l = es := by unfold applyErr; rw [if_pos (by rw [hes.out]; exact he), hes.out]
      exact ⟨e1, by unfold applyL; rw [e1, if_neg he]⟩
    clear he
    go_wp2
    go_ret3
    rw [hap.out.1, hap.out.2]
    exact ApplyRet.no hb1
  have he1 : (es != 0) = false := by simp [he]
  have HE : Hid (sizesN (lens im) = 0) := by rw [Hid, hes.out, he]
  clear he hes
  have hrg := Lib.hid (sizes_range HE.out)
  have hne : Hid (∀ r ∈ im, 0 < r.length ∧ r.length ≤ 1000000) := fun r hr => by
    have := hrg.out.2 (lenI r) (List.mem_map.2 ⟨r, hr, rfl⟩)
    unfold lenI at this
    omega
  have hcp := Lib.hid (refCopyOwn_any A c im.length im w1 rfl (H1.out.fwd hb1) (by omega) hne.out)
  go_wp2_with fail
  refine hcp.out.mono ?_
  rintro e w2 ⟨B, vc, xs, rfl, ho2, hb2⟩
  have HO2 := Lib.hid ho2; clear ho2 hcp
  have hB2 : Below w.heap.size w w2 := ext_trans hb1 hb2
  have hsz1 := hb1.size
  have hxl : Hid (xs.length = im.length) := HO2.out.len
  go_wp2_with fail
  go_loopw [9] (fun i wr => ∃ k : Nat, k ≤ l.length ∧ i = .int .i64 k ∧ Below w1.heap.size w1 wr ∧ Hid (∀ x ∈ l.take k, fitsN (lens im) x = 0) ∧ Hid (ImgOwn wr w1.heap.size B vc xs (putAll im (l.take k)))) (fun i _ => l.length - (intOf i).toNat)
  case atStart => exact ⟨0, by omega, rfl, hb2, by simp [Hid], HO2.out⟩
  case round =>
    obtain ⟨wo, rfl⟩ : ∃ wo : World, wo = wr := ⟨_, rfl⟩
    obtain ⟨k, hk, rfl, hBo, hz, hown⟩ := hrel
    have hB : Below w.heap.size w wo := ext_trans hb1 hBo
    obtain ⟨jm, hjm⟩ : ∃ jm, Hid (jm = putAll im (l.take k)) := ⟨_, Lib.hid rfl⟩
    rw [← hjm.out] at hown
    have hjl : Hid (jm.length = im.length) := by rw [Hid, hjm.out]; exact putAll_length _ _
    have hjn : Hid (lens jm = lens im) := by rw [Hid, hjm.out]; exact putAll_lens hz.out
    by_cases hlt : k < l.length
    · obtain ⟨b, off, D, dc, rfl, hb, e0, e1, e2, hD, hn1, hn2, hi1, hi2⟩ := (H2.out wo hB).wr hlt
      have hbl : b < w.heap.size := hb
      have hnn : (0 : Int) ≤ k := by omega
      have hki : (k : Int) < l.length := by omega
      have hsz := hB.size
      unfold maxLen at hn2
      obtain ⟨y, hy⟩ : ∃ y, Hid (y = l[k]'hlt) := ⟨_, Lib.hid rfl⟩
      rw [← hy.out] at e0 e1 e2 hn1 hi1 hi2 hD
      obtain ⟨v, s, data⟩ := y
      simp only at e0 e1 e2 hn1 hi1 hi2 hD
      have HD := Lib.hid hD; clear hD
      obtain ⟨pn, hpn⟩ : ∃ pn, Hid (fitsN (lens im) (v, s, data) = pn) := ⟨_, Lib.hid rfl⟩
      have hfx := Lib.hid (refFits07_any A c im.length data.length im v s D dc data pn wo rfl rfl (H1.out.fwd hB) (by omega) (by omega) hi1 hi2 HE.out hpn.out)
      go_wp2_with fail
      refine hfx.out.mono ?_
      rintro e w3 ⟨rfl, hb3⟩
      have hw3 : Below w.heap.size w w3 := ext_trans hB hb3
      have E0 := (hb3.cell (p := ⟨b, off + k * 3, none⟩) (by show b < wo.heap.size; omega)).trans e0
      have E1 := (hb3.cell (p := ⟨b, off + k * 3 + 1, none⟩) (by show b < wo.heap.size; omega)).trans e1
      have E2 := (hb3.cell (p := ⟨b, off + k * 3 + 2, none⟩) (by show b < wo.heap.size; omega)).trans e2
      clear e0 e1 e2 hfx
      by_cases hp0 : pn = 0
      · have hp1 : (pn != 0) = false := by simp [hp0]
        have HP := Lib.hid hp0; clear hp0
        have hfit := hpn.out.trans HP.out
        have hzs : Hid (∀ x ∈ l.take (k + 1), fitsN (lens im) x = 0) := by
          intro x hx
          rw [List.take_succ_eq_append_getElem hlt] at hx
          rcases List.mem_append.1 hx with hx | hx
          · exact hz.out x hx
          · rw [List.mem_singleton.1 hx, ← hy.out]; exact hfit
        rw [← hjn.out] at hfit
        obtain ⟨kv, sv, ev, es2, hkv, hdp, hsv⟩ := fits_img hfit
        simp only at ev es2 hdp hsv
        subst ev es2
        have HO3 := Lib.hid (hown.out.below hb3)
        have hxk : kv < xs.length := by rw [HO3.out.len]; exact hkv
        obtain ⟨x, hx⟩ : ∃ x, Hid (x = xs[kv]'hxk) := ⟨_, Lib.hid rfl⟩
        obtain ⟨row, hrow⟩ : ∃ r, Hid (r = jm[kv]'hkv) := ⟨_, Lib.hid rfl⟩
        have hgd : jm.getD kv [] = row := by rw [hrow.out, List.getD_eq_getElem?_getD, List.getElem?_eq_getElem hkv]; rfl
        rw [hgd] at hsv
        have HGD := Lib.hid hgd; clear hgd
        have hrow0 := HO3.out.rows kv hxk hkv
        rw [← hx.out, ← hrow.out] at hrow0
        obtain ⟨rb, rn, rc⟩ := x
        have hty := hrow0.ty
        simp only at hty
        obtain ⟨y1, y2, y3, y4, y5, _⟩ := hty
        subst y3
        have HROW := Lib.hid hrow0; clear hrow0
        have hOut : Hid (∀ W, ImgOwn W w1.heap.size B vc xs (jm.set kv (over row sv (data.take 0))) → True) := fun _ _ => trivial
        clear hOut
        have hov0 : Hid (jm.set kv (over row sv (data.take 0)) = jm) := by
          have e1 : over row sv (data.take 0) = row := by simp [over]
          rw [Hid, e1, hrow.out, List.set_getElem_self]
        have hkvi : (kv : Int) < im.length := by have := hjl.out; omega
        have hkv0 : (0 : Int) ≤ kv := by omega
        have hdn : data.length ≤ row.length := by omega
        have hB13 : Below w1.heap.size w1 w3 := ext_trans hBo hb3
        have HEE : Hid (∀ W, Below w1.heap.size w1 W → W.cell? ⟨b, off + k * 3, none⟩ = some (.int .i64 kv) ∧ W.cell? ⟨b, off + k * 3 + 1, none⟩ = some (.int .i64 sv) ∧ W.cell? ⟨b, off + k * 3 + 2, none⟩ = some (.slice D data.length dc)) := fun W hb => by
          have hk : W.heap[b]? = w3.heap[b]? := (hb.block b (by omega)).trans (hB13.block b (by omega)).symm
          exact ⟨(World.cell?_of_block (a := ⟨b, off + k * 3, none⟩) hk).trans E0, (World.cell?_of_block (a := ⟨b, off + k * 3 + 1, none⟩) hk).trans E1, (World.cell?_of_block (a := ⟨b, off + k * 3 + 2, none⟩) hk).trans E2⟩
        have HDW : Hid (∀ W, Below w1.heap.size w1 W → SlAt encSec W (Bl w.heap.size) D data) := fun W hb => HD.out.blk (fun g hg => (hb.block g (by have : g < w.heap.size := hg; omega)).trans (hBo.block g (by have : g < w.heap.size := hg; omega)).symm)
        have hrl : (row.length : Int) ≤ 4096 := by
          have := (hrg.out.2 (lenI row) (by rw [← hjn.out]; exact List.mem_map.2 ⟨row, by rw [hrow.out]; exact List.getElem_mem hkv, rfl⟩)).2
          exact this
        go_wp2_with fail
        clear E0 E1 E2
        go_loopw [11] (fun jj W => ∃ j : Nat, j ≤ data.length ∧ jj = .int .i64 j ∧ Below w1.heap.size w1 W ∧ Hid (ImgOwn W w1.heap.size B vc xs (jm.set kv (over row sv (data.take j))))) (fun jj _ => data.length - (intOf jj).toNat)
        case atStart => exact ⟨0, by omega, rfl, hB13, by rw [Hid, hov0.out]; exact HO3.out⟩
        case round =>
          obtain ⟨W, rfl⟩ : ∃ W : World, W = wr := ⟨_, rfl⟩
          obtain ⟨j, hj, rfl, hBW, hownW⟩ := hrel
          obtain ⟨e0, e1, e2⟩ := HEE.out W hBW
          have hbW : Below w.heap.size w W := ext_trans hb1 hBW
          by_cases hjlt : j < data.length
          · obtain ⟨b2, off2, x0, x1, x2, x3, x4, x5, x6, x7, rfl, hb2', hxe, hok, z0, z1, z2, z3, z4, z5, z6, z7⟩ := (HDW.out W hBW).sec hjlt
            rw [hxe] at hok
            have hHo := hownW.out
            obtain ⟨g, cs, hBg, hgl1, hgl, _, hcell, _, hrd⟩ := hHo.outer.elem hxk
            subst hBg
            rw [← hx.out] at hrd
            obtain ⟨rfl, _, _⟩ := hrd
            have hc0 := hcell 0 _ rfl
            simp only [encBlk, Nat.mul_one, Nat.add_zero] at hc0
            have hlen : (over row sv (data.take j)).length = row.length := over_len (by simp; omega)
            have hrow1 := hHo.rows kv hxk (by rw [List.length_set]; exact hkv)
            rw [← hx.out, List.getElem_set_self] at hrow1
            have hsj : sv + j < row.length := by omega
            have hsji : (sv : Int) + j < row.length := by omega
            have hsj0 : (0 : Int) ≤ (sv : Int) + j := by omega
            have hj0 : (0 : Int) ≤ j := by omega
            have hjd : (j : Int) < data.length := by omega
            obtain ⟨hc8, hfz⟩ := Own.cellSec hrow1 hlen (k := sv + j) (by rw [hlen]; exact hsj)
            obtain ⟨u0, d0⟩ := hc8 0 (by omega)
            obtain ⟨u1, d1⟩ := hc8 1 (by omega)
            obtain ⟨u2, d2⟩ := hc8 2 (by omega)
            obtain ⟨u3, d3⟩ := hc8 3 (by omega)
            obtain ⟨u4, d4⟩ := hc8 4 (by omega)
            obtain ⟨u5, d5⟩ := hc8 5 (by omega)
            obtain ⟨u6, d6⟩ := hc8 6 (by omega)
            obtain ⟨u7, d7⟩ := hc8 7 (by omega)
            simp only [Nat.add_zero] at d0
            have hst := Own.setSec hrow1 hlen (k := sv + j) (by rw [hlen]; exact hsj) hok
            have hST : Hid (RowOf (st8 W rb (sv + j) x0 x1 x2 x3 x4 x5 x6 x7) w1.heap.size (rb, row.length, rc) (over row sv (data.take (j + 1)))) := by
              rw [Hid, ← over_step (row := row) (news := data) (s := sv) (by omega) hjlt, hxe]
              exact hst
            have hfin : Hid (ImgOwn (st8 W rb (sv + j) x0 x1 x2 x3 x4 x5 x6 x7) w1.heap.size (some ⟨g, 0, none⟩) vc xs (jm.set kv (over row sv (data.take (j + 1))))) := by
              have h4 := hHo.put (w1 := st8 W rb (sv + j) x0 x1 x2 x3 x4 x5 x6 x7) (row := over row sv (data.take (j + 1))) hxk (by rw [← hx.out]; exact hST.out) (by rw [← hx.out]; exact st8_grown)
              rw [List.set_set] at h4
              exact h4
            clear hst hc8 hHo hcell hrow1 hST hlen
            go_upto_region 14 with (fail)
            go_region
            obtain ⟨W5, hW5⟩ : ∃ W5, st8 W rb (sv + j) x0 x1 x2 x3 x4 x5 x6 x7 = W5 := ⟨_, rfl⟩
            have hB5 : Below w1.heap.size w1 W5 := by rw [← hW5]; exact st8_below hBW y1
            rw [hW5] at hfin
            have hW6 := hW5
            unfold st8 at hW6
            rw [hW6]
            clear hW5 hW6 d0 d1 d2 d3 d4 d5 d6 d7 z0 z1 z2 z3 z4 z5 z6 z7 e0 e1 e2 hc0 hfz
            go_wp2
            go_roundw
            case rel => exact ⟨j + 1, hjlt, by go_num, hB5.drew, hfin.out.below (Below.refl _ _).drew⟩
            case measure => simp [intOf]; omega
          · have hjj : j = data.length := by omega
            subst hjj
            have hput : Hid (ImgOwn W w1.heap.size B vc xs (putAll im (l.take (k + 1)))) := by
              have h := hownW.out
              rw [List.take_length] at h
              rw [Hid, List.take_succ_eq_append_getElem hlt, putAll_snoc, ← hjm.out, ← hy.out]
              unfold putW
              simp only [Int.toNat_natCast]
              rw [HGD.out]
              exact h
            go_wp2_with fail
            go_roundw
            case rel => exact ⟨k + 1, hlt, by go_num, hBW, hzs.out, hput.out⟩
            case measure => simp [intOf]; omega
      · have hp1 : (pn != 0) = true := by simp [hp0]
        have HP := Lib.hid hp0; clear hp0
        have herr : Hid (errOf (fitsN (lens im)) l = pn) := by
          rw [Hid, ← hpn.out]
          have h2 := errOf_at hlt hz.out (by rw [← hy.out, hpn.out]; exact HP.out)
          rw [h2, ← hy.out]
        have hap : Hid (applyErr im l = pn ∧ applyL im l = []) := by
          have e1 : applyErr im l = pn := by unfold applyErr; rw [if_neg (by rw [HE.out]; simp), herr.out]
          exact ⟨e1, by unfold applyL; rw [e1, if_neg HP.out]⟩
        go_wp2
        go_ret3
        rw [hap.out.1, hap.out.2]
        exact ApplyRet.no hw3
    · have hkk : k = l.length := by omega
      subst hkk
      have hz0 := hz.out
      rw [List.take_length] at hz0
      have hap : Hid (applyErr im l = 0 ∧ applyL im l = jm) := by
        have e1 : applyErr im l = 0 := by unfold applyErr; rw [if_neg (by rw [HE.out]; simp), errOf_zero hz0]
        exact ⟨e1, by unfold applyL; rw [e1, if_pos rfl, hjm.out, List.take_length]⟩
      obtain ⟨p1, p2⟩ := hown.out.parts
      have HRD := Lib.hid hown.out.reads
      have HXL : Hid (xs.length = jm.length) := hown.out.len
      clear hz0
      go_wp2
      go_ret3
      rw [hap.out.1, hap.out.2]
      exact ⟨B, vc, 0, by show Ending.returned (.tuple #[.slice B im.length vc, .int .i64 0, .int .i64 0]) = Ending.returned (.tuple #[.slice B jm.length vc, .int .i64 0, .int .i64 0]); rw [hjl.out], p1, p2, HRD.out.more (fun g hg => ⟨by have := hg.1; omega, hg.2⟩), hB⟩
end Go.Proofs.YtgndgkjefgjamaaGreat

namespace Go.Proofs.YtgndgkjefgjamaaGreat
open Go.RowKit Go.Shelf
attribute [local go_sem] Oper.semAt_some

end Go.Proofs.YtgndgkjefgjamaaGreat

namespace Go.Proofs.YtgndgkjefgjamaaGreat
open Go.RowKit Go.Shelf
attribute [local go_sem] Oper.semAt_some

end Go.Proofs.YtgndgkjefgjamaaGreat

namespace Go.Proofs.YtgndgkjefgjamaaGreat
open Go.RowKit Go.Shelf
attribute [local go_sem] Oper.semAt_some

end Go.Proofs.YtgndgkjefgjamaaGreat

namespace Go.Proofs.YtgndgkjefgjamaaGreat
open Go.RowKit Go.Shelf
attribute [local go_sem] Oper.semAt_some

end Go.Proofs.YtgndgkjefgjamaaGreat
