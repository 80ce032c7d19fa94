/-
  Owned lists of sectors: stores; append of all elements at a step of a region that draws its order. No program in sight.; The reference's Copy of snapshots.; A sector stored; the reference's Fits, its copy of an image that it owns, its Apply.; Reference 37: changed.; The laws on clones: a variable of clones, and what each call does to it.
-/
import Derived.BigRegion
import Derived.BigQuiet
import Derived.Test.YtgndgkjefgjamaaGreatZ01
import Derived.Test.YtgndgkjefgjamaaGreatZ02
import Derived.Test.YtgndgkjefgjamaaGreatZ03
import Derived.Test.YtgndgkjefgjamaaGreatZ04
import Derived.Test.YtgndgkjefgjamaaGreatZ05
import Derived.Test.YtgndgkjefgjamaaGreatZ06
import Derived.Test.YtgndgkjefgjamaaGreatZ07
import Derived.Test.YtgndgkjefgjamaaGreatZ08
import Derived.Test.YtgndgkjefgjamaaGreatZ09
import Derived.Test.YtgndgkjefgjamaaGreatZ10
import Derived.Test.YtgndgkjefgjamaaGreatZ11
import Derived.Test.YtgndgkjefgjamaaGreatZ12
import Derived.Test.YtgndgkjefgjamaaGreatZ13
import Derived.Test.YtgndgkjefgjamaaGreatZ14
import Derived.Test.YtgndgkjefgjamaaGreatZ15
import Derived.Test.YtgndgkjefgjamaaGreatZ16
import Derived.Test.YtgndgkjefgjamaaGreatZ17
import Derived.Test.YtgndgkjefgjamaaGreatZ18
set_option linter.unusedVariables false
set_option linter.unusedSimpArgs false
set_option linter.unusedSectionVars false
set_option linter.unnecessarySimpa false
namespace Go.Proofs.YtgndgkjefgjamaaGreat
open Go.RowKit Go.Shelf
attribute [local go_sem] Oper.semAt_some

end Go.Proofs.YtgndgkjefgjamaaGreat

namespace Go.Proofs.YtgndgkjefgjamaaGreat
open Go.RowKit Go.Shelf
attribute [local go_sem] Oper.semAt_some

section
variable {w w' : World} {lo : Nat} {A : Option Addr} {c : Nat} {xs : List WB} {l : List Wr}
end
theorem tyWB : SliceTy Tryz.prog 64 45 encWB.size 40 := sliceTy_mk (z := .agg #[.int .i64 0, .int .i64 0, .slice none 0 0]) Tryz.underlying64 (by kernel_rfl) rfl (by decide)
def WrsRet (l : List Wr) (w : World) (e : Ending) (w' : World) : Prop := ∃ A c xs, e = .returned (.slice A l.length c) ∧ WrsOwn w' w.heap.size A c xs l ∧ Below w.heap.size w w'
set_option maxHeartbeats 4000000 in
theorem refCopyWrites_any (A : Option Addr) (c n : Nat) (l : List Wr) (w : World) (hn : l.length = n) (h1 : SlAt encWr w (Bl w.heap.size) A l) (hl : n ≤ 100000) (hd : ∀ x ∈ l, 0 < x.2.2.length ∧ x.2.2.length ≤ 1000000) :
    Calls Tryz.prog 156 #[.slice A n c] w (WrsRet l w) := by
  subst hn
  have H1 : Hid (∀ w', Below w.heap.size w w' → SlAt encWr w' (Bl w.heap.size) A l) := fun w' hb => h1.below hb
  have HD := Lib.hid hd
  clear h1 hd
  obtain ⟨n0, hn0⟩ : ∃ n0, w.heap.size = n0 := ⟨_, rfl⟩
  go_enter Tryz.func156, Tryz.ntmps156
  go_wp2
  go_loopw [3, 4] (fun v i wr => ∃ (k : Nat) (B : Option Addr) (vc : Nat) (xs : List WB), k ≤ l.length ∧ i = .int .i64 k ∧ v = .slice B xs.length vc ∧ Below n0 w wr ∧ n0 ≤ wr.heap.size ∧ Hid (xs.length = k) ∧ Hid (WrsOwn wr n0 B vc xs (l.take k))) (fun _ i _ => l.length - (intOf i).toNat)
  case atStart => exact ⟨0, none, 0, [], by omega, rfl, rfl, Below.refl _ _, by omega, rfl, WrsOwn.nil_⟩
  case round =>
    obtain ⟨wo, rfl⟩ : ∃ wo : World, wo = wr := ⟨_, rfl⟩
    obtain ⟨k, B, vc, xs, hk, rfl, rfl, hB, hsz, hlen, hown⟩ := hrel
    by_cases hlt : k < l.length
    · have hnn : (0 : Int) ≤ k := by omega
      have hki : (k : Int) < l.length := by omega
      obtain ⟨b, off, D, dc, rfl, hb, g0, g1, g2, hD, hd1, hd2, hi1, hi2⟩ := (H1.out wo (by rw [hn0]; exact hB)).wr hlt
      obtain ⟨hp1, hp2⟩ := HD.out l[k] (List.getElem_mem hlt)
      have hst : Hid (l.take (k + 1) = l.take k ++ [l[k]]) := List.take_succ_eq_append_getElem hlt
      obtain ⟨x, hx⟩ : ∃ x, l[k] = x := ⟨_, rfl⟩
      rw [hx] at g0 g1 g2 hD hd1 hp1 hp2 hst hi1 hi2
      obtain ⟨v, s, row⟩ := x
      simp only at g0 g1 g2 hD hd1 hp1 hp2 hi1 hi2
      have HDD := Lib.hid (hD.more (S' := fun g => g < wo.heap.size) (fun g hg => by have : g < w.heap.size := hg; omega))
      have hlt1 := Lib.hid hown.out.outer.lt
      have hbl : b < wo.heap.size := by have : b < w.heap.size := hb; omega
      have hol : xs.length ≤ 100000 := by rw [hlen.out]; omega
      have HI := Lib.hid (And.intro hi1 hi2)
      clear hx hD
      go_upto_region 6 with (fail)
      go_region_law (first | (refine step_app1 (E := encWB) tyWB rfl _ _ rfl rfl HO2.out.outer (v, s, g, row.length, c4) [.int .i64 v, .int .i64 s, .slice (some ⟨g, 0, none⟩) row.length c4] rfl HRD.out (heap_alloc_new _ _) (fun _ h => h.elim) (by simp; omega) (by unfold maxLen; omega) (by omega) ?_; intro A5 c5 w5 hown5 hg5 hat5) | (refine step_appAll (E := encSec) tySecs36 rfl _ _ rfl rfl (Own.nil_ (base := wo.heap.size) (e := 95) (S := fun g => g < wo.heap.size)) (news := row) rfl rfl (by first | exact HDD.out | exact HDD.out.drew ⟨1, rfl⟩) (fun _ h => h) (Nat.le_refl _) (by unfold maxLen; simp; omega) (by simp; omega) ?_; intro A4 c4 w4 hown4 hg4 hat4; have hown4' : Own encSec w4 wo.heap.size 95 (fun g => g < wo.heap.size) (.slice A4 row.length c4) row := (by simpa using hown4); have hx4 : Below wo.heap.size wo w4 := (by first | exact (Below.refl _ _).grown hg4 (Nat.le_refl _) (fun k e => by cases e) | exact ((Below.refl _ _).drew).grown hg4 (Nat.le_refl _) (fun k e => by cases e)); have hfl := Own.flat hown4' (fun h => h); obtain ⟨g, _, rfl, _⟩ := hfl.elem (i := 0) (by omega); have hr4 : Hid (RowOf w4 wo.heap.size (g, row.length, c4) row) := hfl; have hgn : wo.heap.size ≤ g := hr4.out.ty.1; have hz4 := hx4.size; have HO2 := Lib.hid (hown.out.below (hx4.trans (ext_alloc (o := .cells #[.int .i64 v, .int .i64 s, .slice (some ⟨g, 0, none⟩) row.length c4] 45) (Below.refl w4.heap.size w4) |>.mono hz4))); have HRD : Hid (encWB.rd (w4.alloc (.cells #[.int .i64 v, .int .i64 s, .slice (some ⟨g, 0, none⟩) row.length c4] 45)) (fun _ => False) [.int .i64 v, .int .i64 s, .slice (some ⟨g, 0, none⟩) row.length c4] (v, s, g, row.length, c4)) := ⟨rfl, HI.out, hr4.out.ty.2.2.2.1, hr4.out.ty.2.2.2.2.1⟩; have g0' := (hx4.cell (p := ⟨b, off + k * 3, none⟩) hbl).trans g0; have g1' := (hx4.cell (p := ⟨b, off + k * 3 + 1, none⟩) hbl).trans g1; simp only [List.length_nil, Nat.zero_add]))
      all_goals
        have hfin : Hid (WrsOwn w5 n0 A5 c5 (xs ++ [(v, s, g, row.length, c4)]) (l.take (k + 1))) := by
          rw [Hid, hst.out]
          refine HO2.out.snoc (x := (v, s, g, row.length, c4)) (y := (v, s, row)) ((hr4.out.base hsz).blk ((Below.heap_alloc _ _ _ hr4.out.ty.2.1))) ⟨rfl, rfl⟩ (fun y hy => ?_) hown5 hg5
          obtain ⟨j, hj, rfl⟩ := List.mem_iff_getElem.1 hy
          have := (hown.out.rows j hj (by rw [← hown.out.len]; exact hj)).ty.2.1
          simp only
          omega
        have hz5 := hg5.size
        have hB5 : Below n0 w w5 := (((hB.trans (hx4.mono hsz))).alloc (by omega) (.cells #[.int .i64 v, .int .i64 s, .slice (some ⟨g, 0, none⟩) row.length c4] 45)).grown hg5 (by simp; omega) (fun b h => (hown.out.outer.lt b h).1)
        have hz6 : n0 ≤ w5.heap.size := by simp at hz5; omega
        clear hown4 hown4' hfl hown5 hg5 hat5 HO2 HRD hz5 g0 g1 g2 g0' g1'
        go_wp2
        go_roundw
        case rel => exact ⟨k + 1, A5, c5, xs ++ [(v, s, g, row.length, c4)], hlt, by go_num, by simp, hB5, hz6, by rw [Hid, List.length_append, hlen.out]; rfl, hfin.out⟩
        case measure => simp [intOf]; omega
    · have hkk : k = l.length := by omega
      subst hkk
      have ho := hown.out
      rw [List.take_length] at ho
      have HO := Lib.hid ho
      clear ho
      go_wp2
      go_ret
      exact ⟨B, vc, xs, by show Ending.returned (.slice B xs.length vc) = Ending.returned (.slice B l.length vc); rw [HO.out.len], by rw [hn0]; exact HO.out, by rw [hn0]; exact hB⟩
end Go.Proofs.YtgndgkjefgjamaaGreat
namespace Go.Proofs.YtgndgkjefgjamaaGreat
open Go.RowKit Go.Shelf
attribute [local go_sem] Oper.semAt_some

/-- how snapshots are that the reference can copy: no write is empty -/
def SnFull (l : List Snp) : Prop := ∀ x ∈ l, ∀ y ∈ x.2.2, 0 < y.2.2.length
set_option maxHeartbeats 4000000 in
set_option maxRecDepth 100000 in
theorem refCopy36_any (A A2 : Option Addr) (c c2 n m : Nat) (im : Img) (l : List Snp) (w : World) (hn : im.length = n) (hm : l.length = m) (h1 : SlAt (encSl encSec) w (Bl w.heap.size) A im) (h2 : SlAt encSnp w (Bl w.heap.size) A2 l) (hL : SnLim im l) (hF : SnFull l) :
    Calls Tryz.prog 130 #[.agg #[.slice A n c, .slice A2 m c2]] w fun e w' => ∃ B vc D dc mid, e = .returned (.agg #[.slice B n vc, .slice D m dc]) ∧ SnRet im l B vc D dc mid w.heap.size w' ∧ Below w.heap.size w w' := by
  subst hn hm
  have H1 : Hid (∀ w', Below w.heap.size w w' → SlAt (encSl encSec) w' (Bl w.heap.size) A im) := fun w' hb => h1.below hb
  have H2 : Hid (∀ w', Below w.heap.size w w' → SlAt encSnp w' (Bl w.heap.size) A2 l) := fun w' hb => h2.below hb
  have HL := Lib.hid hL
  have HF := Lib.hid hF
  have hl1 := hL.ims
  have hl2 := hL.its
  clear h1 h2 hL hF
  obtain ⟨n0, hn0⟩ : ∃ n0, w.heap.size = n0 := ⟨_, rfl⟩
  obtain ⟨W0, hW0⟩ : ∃ W0, (w.alloc (.cells #[.slice A im.length c, .slice A2 l.length c2] 26)).alloc (.cells #[.slice none 0 0, .slice none 0 0] 26) = W0 := ⟨_, rfl⟩
  have hB0 : Below n0 w W0 := by rw [← hW0, ← hn0]; exact ext_alloc (ext_alloc (Below.refl _ _))
  have hs0 : n0 + 1 < W0.heap.size := by rw [← hW0, ← hn0]; simp
  have hr0 : W0.heap[n0]? = some (.cells #[.slice A im.length c, .slice A2 l.length c2] 26 (0, 0)) := by rw [← hW0, ← hn0]; exact (Below.heap_alloc _ _ _ (by simp)).trans (heap_alloc_new _ _)
  have hrz0 : W0.heap[n0 + 1]? = some (.cells #[.slice none 0 0, .slice none 0 0] 26 (0, 0)) := by rw [← hW0, ← hn0]; exact heap_new2 _ _ _
  have hBL : Hid (∀ (W : World) g, Below n0 w W → Bl w.heap.size g → Bl W.heap.size g) := fun W g hb hg => by have := hb.size; have h5 : g < w.heap.size := hg; show g < W.heap.size; omega
  have HCC : Hid (∀ W, Below W0.heap.size W0 W → W.cell? ⟨n0, 0, none⟩ = some (.slice A im.length c) ∧ W.cell? ⟨n0, 1, none⟩ = some (.slice A2 l.length c2)) := fun W hb => by
    obtain ⟨a, b, _⟩ := blk2 ((hb.block n0 (by omega)).trans hr0)
    exact ⟨a, b⟩
  have HRZ : Hid (∀ W, Below W0.heap.size W0 W → W.heap[n0 + 1]? = some (.cells #[.slice none 0 0, .slice none 0 0] 26 (0, 0))) := fun W hb => (hb.block (n0 + 1) hs0).trans hrz0
  have HCP := Lib.hid (refCopy07_any A c im.length im W0 rfl ((H1.out W0 (by rw [hn0]; exact hB0)).more (fun g hg => hBL.out W0 g hB0 hg)) hl1 HL.out.row)
  obtain ⟨c0, c1⟩ := HCC.out W0 (Below.refl _ _)
  clear hr0 hrz0
  go_enter Tryz.func130, Tryz.ntmps130
  go_wp2_with fail
  refine HCP.out.mono ?_
  rintro e w1 ⟨B, vc, rfl, p1, p2, p3, hb1⟩
  have HP3 := Lib.hid p3
  have hvc : Hid (im.length ≤ vc ∧ vc ≤ maxLen) := ⟨p1, p2⟩
  have hz1 := hb1.size
  obtain ⟨ob, hob⟩ : ∃ ob, w1.heap.size = ob := ⟨_, rfl⟩
  obtain ⟨wo, hwo⟩ : ∃ wo, w1.alloc (.cells #[.slice B im.length vc, .slice none 0 0] 26) = wo := ⟨_, rfl⟩
  have hbo : Below w1.heap.size w1 wo := by rw [← hwo]; exact ext_alloc (Below.refl _ _)
  have hro : wo.heap[ob]? = some (.cells #[.slice B im.length vc, .slice none 0 0] 26 (0, 0)) := by rw [← hwo, ← hob]; exact heap_alloc_new _ _
  have hso : wo.heap.size = ob + 1 := by rw [← hwo, ← hob]; simp
  have hb0o : Below W0.heap.size W0 wo := ext_trans hb1 hbo
  have hbwo : Below n0 w wo := hB0.trans (hb0o.mono (by omega))
  have hIM : Hid (SlAt (encSl encSec) wo (Nw W0.heap.size ob) B im) := (HP3.out.blk (w' := wo) (fun g hg => hbo.block g hg.2)).more (fun g hg => ⟨hg.1, by have := hg.2; omega⟩)
  have HRO := Lib.hid hro
  clear p1 p2 p3 HCP c0 c1 hro HP3
  have HWO := Lib.hid hwo
  clear hwo
  go_upto_region 2 with (fail)
  rw [HWO.out]
  try rw [hob]
  clear HWO hbo
  go_wp2_with fail
  go_loopw [4] (fun i wr => ∃ (k : Nat) (D2 : Option Addr) (dc : Nat) (out : List Snp), k ≤ l.length ∧ i = .int .i64 k ∧ Below n0 w wr ∧ wo.heap.size ≤ wr.heap.size ∧ Hid (out = l.take k) ∧ Hid (wr.heap[ob]? = some (.cells #[.slice B im.length vc, .slice D2 out.length dc] 26 (0, 0))) ∧ Hid (OwnX (fun g => g = ob) encSnp wr wo.heap.size 158 (.slice D2 out.length dc) out) ∧ Hid (∀ g, g < wo.heap.size → g ≠ ob → wr.heap[g]? = wo.heap[g]?)) (fun i _ => l.length - (intOf i).toNat)
  case atStart => exact ⟨0, none, 0, [], by omega, rfl, hbwo, Nat.le_refl _, by simp [Hid], HRO.out, OwnX.nil_, fun _ _ _ => rfl⟩
  case round =>
    obtain ⟨wp, rfl⟩ : ∃ wo : World, wo = wr := ⟨_, rfl⟩
    obtain ⟨k, D2, dc, out, hk2, rfl, hBp, hszp, hout, hp2, hown, hkp⟩ := hrel
    have hrn : wp.heap[n0]? = W0.heap[n0]? := (hkp.out n0 (by omega) (by omega)).trans (hb0o.block n0 (by omega))
    have hrz : wp.heap[n0 + 1]? = some (.cells #[.slice none 0 0, .slice none 0 0] 26 (0, 0)) := (hkp.out (n0 + 1) (by omega) (by omega)).trans (HRZ.out wo hb0o)
    have hcn := HCC.out W0 (Below.refl _ _)
    have e0 : wp.cell? ⟨n0, 0, none⟩ = some (.slice A im.length c) := (World.cell?_of_block (a := ⟨n0, 0, none⟩) hrn).trans hcn.1
    have e1 : wp.cell? ⟨n0, 1, none⟩ = some (.slice A2 l.length c2) := (World.cell?_of_block (a := ⟨n0, 1, none⟩) hrn).trans hcn.2
    have HRZ2 := Lib.hid hrz
    clear hcn hrz
    by_cases hlt2 : k < l.length
    · obtain ⟨b, off, D, dd, rfl, hb, g0, g1, g2, hD, hd1, hd2, hi1, hi2⟩ := (H2.out wp (by rw [hn0]; exact hBp)).snp hlt2
      obtain ⟨hsl, hsd⟩ := HL.out.sav l[k] (List.getElem_mem hlt2)
      have hfl := HF.out l[k] (List.getElem_mem hlt2)
      have hst : Hid (l.take (k + 1) = l.take k ++ [l[k]]) := List.take_succ_eq_append_getElem hlt2
      obtain ⟨x, hx⟩ : ∃ x, l[k] = x := ⟨_, rfl⟩
      rw [hx] at g0 g1 g2 hD hd1 hi1 hi2 hsl hsd hst hfl
      obtain ⟨num, tm, sv⟩ := x
      simp only at g0 g1 g2 hD hd1 hi1 hi2 hsl hsd hfl
      have hki : (k : Int) < l.length := by omega
      have hnn : (0 : Int) ≤ k := by omega
      have hol : out.length ≤ k := by rw [hout.out]; simp; omega
      clear hx
      go_upto_region 6 with (fail)
      obtain ⟨W1, hW1⟩ : ∃ W1, wp.alloc (.cells #[.int .i64 num, .int .i64 tm, .slice D sv.length dd] 158) = W1 := ⟨_, rfl⟩
      rw [hW1]
      have hb1' : Below wp.heap.size wp W1 := by rw [← hW1]; exact ext_alloc (Below.refl _ _)
      have hr1 : W1.heap[wp.heap.size]? = some (.cells #[.int .i64 num, .int .i64 tm, .slice D sv.length dd] 158 (0, 0)) := by rw [← hW1]; exact heap_alloc_new _ _
      have hs1 : W1.heap.size = wp.heap.size + 1 := by rw [← hW1]; simp
      have HWR := Lib.hid (refCopyWrites_any D dd sv.length sv W1 rfl ((hD.blk (w' := W1) (fun g hg => hb1'.block g (by have : g < w.heap.size := hg; omega))).more (fun g hg => by have : g < w.heap.size := hg; show g < W1.heap.size; omega)) hsl (fun y hy => ⟨hfl y hy, hsd y hy⟩))
      obtain ⟨r0, r1, r2, rf⟩ := blk3 hr1
      clear hW1 g0 g1 g2 hD e0 e1
      go_wp2_with fail
      refine HWR.out.mono ?_
      rintro e w2 ⟨A3, c3, xs3, rfl, hox, hb2⟩
      obtain ⟨k1, k2, k3⟩ := hox.parts
      have hr2 : w2.heap[wp.heap.size]? = some (.cells #[.int .i64 num, .int .i64 tm, .slice D sv.length dd] 158 (0, 0)) := (hb2.block _ (by omega)).trans hr1
      have HK3 := Lib.hid k3
      clear r0 r1 r2 rf hr1 HWR k3 hox
      obtain ⟨r0, r1, r2, rf⟩ := blk3 hr2
      go_upto_region 7 with (fail)
      obtain ⟨W3, hW3⟩ : ∃ W3, w2.setCell ⟨wp.heap.size, 2, none⟩ (.slice A3 sv.length c3) = W3 := ⟨_, rfl⟩
      rw [hW3]
      have hr3 : W3.heap[wp.heap.size]? = some (.cells #[.int .i64 num, .int .i64 tm, .slice A3 sv.length c3] 158 (0, 0)) := by rw [← hW3]; exact blk3_set hr2 _
      have hs3 : W3.heap.size = w2.heap.size := by rw [← hW3]; simp [World.setCell]
      have hs2 := hb2.size
      have hb3 : Below wp.heap.size wp W3 := by rw [← hW3]; exact (hb1'.trans (hb2.mono hb1'.size)).setCell (p := ⟨wp.heap.size, 2, none⟩) (Nat.le_refl wp.heap.size) _
      have hK3 : Hid (SlAt encWr W3 (Nw W1.heap.size W3.heap.size) A3 sv) := by
        rw [hs3]
        refine HK3.out.blk (fun g hg => ?_)
        rw [← hW3]
        exact Below.heap_setCell _ _ _ _ (by have := hg.1; show g ≠ wp.heap.size; omega)
      have hs3g : w2.heap.size ≤ W3.heap.size := by omega
      have hs1g : wp.heap.size + 1 ≤ W1.heap.size := by omega
      have hq3 : W3.heap[ob]? = some (.cells #[.slice B im.length vc, .slice D2 out.length dc] 26 (0, 0)) := (hb3.block _ (by omega)).trans hp2.out
      clear r0 r1 r2 rf hr2 hW3 HK3 hb2 hb1' hs3 hs1
      obtain ⟨r0, r1, r2, _⟩ := blk3 hr3
      obtain ⟨_, q1, _⟩ := blk2 hq3
      have hO4 := Lib.hid ((hown.out.below hb3).alloc (.cells #[.int .i64 num, .int .i64 tm, .slice A3 sv.length c3] 158))
      have hO4o := Lib.hid hO4.out.1
      have hlt1 := Lib.hid hown.out.lt
      have HRD : Hid (encSnp.rd (W3.alloc (.cells #[.int .i64 num, .int .i64 tm, .slice A3 sv.length c3] 158)) (fun g => Nw wo.heap.size (W3.alloc (.cells #[.int .i64 num, .int .i64 tm, .slice A3 sv.length c3] 158)).heap.size g ∧ ¬ g = ob ∧ (Value.slice D2 out.length dc).ownBlock ≠ some g) [.int .i64 num, .int .i64 tm, .slice A3 sv.length c3] (num, tm, sv)) :=
        snp_mk (x := (num, tm, sv)) hi1 hi2 k1 k2 (OwnX.since (X := fun g => g = ob) (B := W1.heap.size) ((hK3.out.blk (fun g hg => Below.heap_alloc _ _ _ hg.2)).more (fun g hg => hg.mono (Nat.le_refl _) (by simp))) (by omega) (fun g hg => by have : g = ob := hg; omega) (fun g hg => by have := (hlt1.out g hg).2; omega))
      go_wp2_with (at_builtin; refine Hid.out ?_)
      change wpList _ _ _ _ _ _
      refine wpList_app1 (E := encSnp) tySnps rfl _ _ rfl rfl hO4o.out (num, tm, sv) [.int .i64 num, .int .i64 tm, .slice A3 sv.length c3] rfl HRD.out (heap_alloc_new _ _) (fun _ h => h.1.2) (by simp; omega) (by unfold maxLen; omega) (by omega) ?_
      intro A5 c5 w5 hown5 hg5 hat5
      have hz5 := hg5.size
      rw [World.size_alloc] at hz5
      have hnx : w5.heap[ob]? = wp.heap[ob]? := (hg5.block ob (by rw [World.size_alloc]; omega) (fun e => hown.out.2 _ e.symm rfl)).trans ((Below.heap_alloc _ _ _ (by omega)).trans (hb3.block ob (by omega)))
      have hrow5 : w5.heap[ob]? = some (.cells #[.slice B im.length vc, .slice D2 out.length dc] 26 (0, 0)) := hnx.trans hp2.out
      obtain ⟨_, q5, f5⟩ := blk2 hrow5
      have hrow6 := blk2_1 hrow5 (.slice A5 (out.length + 1) c5)
      have hO5 : Hid (OwnX (fun g => g = ob) encSnp (w5.setCell ⟨ob, 1, none⟩ (.slice A5 (out.length + 1) c5)) wo.heap.size 158 (.slice A5 (out.length + 1) c5) (out ++ [(num, tm, sv)])) := (hO4.out.app hown5 hg5 hat5 (fun g hg => by have : g = ob := hg; simp; omega)).set (p := ⟨ob, 1, none⟩) rfl _
      have hB5 : Below wo.heap.size wp w5 := ((hb3.mono hszp).alloc (by omega) (.cells #[.int .i64 num, .int .i64 tm, .slice A3 sv.length c3] 158)).grown hg5 (by simp; omega) (fun g h => (hlt1.out g h).1)
      have hB6 : Below n0 w (w5.setCell ⟨ob, 1, none⟩ (.slice A5 (out.length + 1) c5)) := (hBp.trans (hB5.mono (by omega))).setCell (p := ⟨ob, 1, none⟩) (by show n0 ≤ ob; omega) _
      have hkp' : Hid (∀ g, g < wo.heap.size → g ≠ ob → (w5.setCell ⟨ob, 1, none⟩ (.slice A5 (out.length + 1) c5)).heap[g]? = wo.heap[g]?) := fun g hg hn => (heap_setCell_other _ _ _ _ hn).trans ((hB5.block g hg).trans (hkp.out g hg hn))
      have hz6 : wo.heap.size ≤ (w5.setCell ⟨ob, 1, none⟩ (.slice A5 (out.length + 1) c5)).heap.size := by simp [World.setCell]; omega
      clear hown5 hg5 hat5 r0 r1 r2 hr3 q1 hq3 hrow5 hnx hB5
      go_wp2
      go_roundw
      case rel => exact ⟨k + 1, A5, c5, out ++ [(num, tm, sv)], hlt2, by go_num, hB6, hz6, by rw [Hid, hst.out, hout.out], by simpa [Hid] using hrow6, by simpa [Hid] using hO5.out, hkp'.out⟩
      case measure => simp [intOf]; omega
    · have hkk : k = l.length := by omega
      subst hkk
      rw [List.take_length] at hout
      obtain ⟨q0, q1, _⟩ := blk2 hp2.out
      obtain ⟨v0, v1, vf⟩ := blk2 HRZ2.out
      go_wp2_with fail
      change bodyPost _ _ _ _ _ ((wp.setCell ⟨n0 + 1, 0, none⟩ (.slice B im.length vc)).setCell ⟨n0 + 1, 1, none⟩ (.slice D2 out.length dc))
      have hz := blk2_set HRZ2.out (.slice B im.length vc) (.slice D2 out.length dc)
      have hB6 : Below n0 w ((wp.setCell ⟨n0 + 1, 0, none⟩ (.slice B im.length vc)).setCell ⟨n0 + 1, 1, none⟩ (.slice D2 out.length dc)) := (hBp.setCell (p := ⟨n0 + 1, 0, none⟩) (by show n0 ≤ n0 + 1; omega) _).setCell (p := ⟨n0 + 1, 1, none⟩) (by show n0 ≤ n0 + 1; omega) _
      have hO6 : OwnX (fun g => g = ob) encSnp ((wp.setCell ⟨n0 + 1, 0, none⟩ (.slice B im.length vc)).setCell ⟨n0 + 1, 1, none⟩ (.slice D2 out.length dc)) wo.heap.size 158 (.slice D2 out.length dc) out :=
        hown.out.keep (by simp [World.setCell]) (fun g hg _ _ => (heap_setCell_other _ ⟨n0 + 1, 1, none⟩ g _ (by show g ≠ n0 + 1; omega)).trans (heap_setCell_other _ ⟨n0 + 1, 0, none⟩ g _ (by show g ≠ n0 + 1; omega)))
      have hI6 : SlAt (encSl encSec) ((wp.setCell ⟨n0 + 1, 0, none⟩ (.slice B im.length vc)).setCell ⟨n0 + 1, 1, none⟩ (.slice D2 out.length dc)) (Nw W0.heap.size wo.heap.size) B im :=
        (hIM.out.blk (w' := ((wp.setCell ⟨n0 + 1, 0, none⟩ (.slice B im.length vc)).setCell ⟨n0 + 1, 1, none⟩ (.slice D2 out.length dc))) (fun g hg => (heap_setCell_other _ ⟨n0 + 1, 1, none⟩ g _ (by have := hg.1; show g ≠ n0 + 1; omega)).trans ((heap_setCell_other _ ⟨n0 + 1, 0, none⟩ g _ (by have := hg.1; show g ≠ n0 + 1; omega)).trans (hkp.out g (by have := hg.2; omega) (by have := hg.2; omega))))).more (fun g hg => ⟨hg.1, by have := hg.2; omega⟩)
      have hz6 : wo.heap.size ≤ ((wp.setCell ⟨n0 + 1, 0, none⟩ (.slice B im.length vc)).setCell ⟨n0 + 1, 1, none⟩ (.slice D2 out.length dc)).heap.size := by simp [World.setCell]; omega
      generalize (wp.setCell ⟨n0 + 1, 0, none⟩ (.slice B im.length vc)).setCell ⟨n0 + 1, 1, none⟩ (.slice D2 out.length dc) = W3 at hz hB6 hO6 hI6 hz6 ⊢
      obtain ⟨z0, z1, _⟩ := blk2 hz
      refine bodyPost_ret (v := .agg #[.slice B im.length vc, .slice D2 out.length dc]) ?_ rfl ?_
      · simp [results, Tryz.results130, Tryz.f130, go_sem, z0, z1]
      · have e := hout.out
        rw [e] at hO6 ⊢
        exact ⟨B, vc, D2, dc, wo.heap.size, rfl, ⟨hvc.out.1, hvc.out.2, by omega, hz6, hI6.more (fun g hg => ⟨by have := hg.1; omega, hg.2⟩), hO6.var (fun g hg => hg.elim)⟩, by rw [hn0]; exact hB6⟩
end Go.Proofs.YtgndgkjefgjamaaGreat
namespace Go.Proofs.YtgndgkjefgjamaaGreat
open Go.RowKit Go.Shelf
attribute [local go_sem] Oper.semAt_some

section
variable {w : World} {g k b : Nat} {x0 x1 x2 x3 x4 x5 x6 x7 : Int}
end
end Go.Proofs.YtgndgkjefgjamaaGreat

namespace Go.Proofs.YtgndgkjefgjamaaGreat
open Go.RowKit Go.Shelf
attribute [local go_sem] Oper.semAt_some

end Go.Proofs.YtgndgkjefgjamaaGreat

namespace Go.Proofs.YtgndgkjefgjamaaGreat
open Go.RowKit Go.Shelf
attribute [local go_sem] Oper.semAt_some

theorem snE_full {im : Img} {l : List Snp} (h : snE (im, l) = 0) : SnFull l := fun x hx y hy => by
  obtain ⟨h1, h2⟩ := snE_ok h
  exact (fits_ok h1 (h2 x hx y hy)).2.2.1
end Go.Proofs.YtgndgkjefgjamaaGreat

namespace Go.Proofs.YtgndgkjefgjamaaGreat
open Go.RowKit Go.Shelf
attribute [local go_sem] Oper.semAt_some

end Go.Proofs.YtgndgkjefgjamaaGreat

namespace Go.Proofs.YtgndgkjefgjamaaGreat
open Go.RowKit Go.Shelf
attribute [local go_sem] Oper.semAt_some

set_option maxHeartbeats 2000000 in
set_option maxRecDepth 100000 in
theorem refOver_any (A D : Option Addr) (c d n m : Nat) (a b : List Wr) (w : World) (hn : a.length = n) (hm : b.length = m) (h1 : SlAt encWr w (Bl w.heap.size) A a) (h2 : SlAt encWr w (Bl w.heap.size) D b) (hl : n + m ≤ 100000) (hd : ∀ x ∈ a, 0 < x.2.2.length ∧ x.2.2.length ≤ 1000000) :
    Calls Tryz.prog 131 #[.slice A n c, .slice D m d] w (RetSl encWr (foldL (a ++ b)) w) := by
  subst hn hm
  have H2 : Hid (∀ w', Below w.heap.size w w' → SlAt encWr w' (Bl w.heap.size) D b) := fun w' hb => h2.below hb
  have HCW := Lib.hid (refCopyWrites_any A c a.length a w rfl h1 (by omega) hd)
  clear h1 h2 hd
  obtain ⟨cat, hcat⟩ : ∃ cat, Hid (a ++ b = cat) := ⟨_, rfl⟩
  have hcl : Hid (cat.length = a.length + b.length) := by rw [← hcat.out, Hid, List.length_append]
  obtain ⟨rr, hrr⟩ : ∃ rr, Hid (foldL cat = rr) := ⟨_, rfl⟩
  rw [hcat.out, hrr.out]
  go_enter Tryz.func131, Tryz.ntmps131
  go_wp2_with fail
  refine HCW.out.mono ?_
  rintro e w1 ⟨B, vc, xs, rfl, ho, hb1⟩
  have hlt1 := ho.own.lt
  have hO : Hid (Own encWr w1 w.heap.size 45 (fun g => g < w1.heap.size ∧ (Value.slice B a.length vc).ownBlock ≠ some g) (.slice B a.length vc) a) := ho.own.more (fun g hg => ⟨hg.1.2, hg.2⟩) (fun g hg hS => hS.2 hg)
  have hD : Hid (SlAt encWr w1 (fun g => g < w1.heap.size ∧ (Value.slice B a.length vc).ownBlock ≠ some g) D b) := (H2.out w1 hb1).more (fun g hg => ⟨Nat.lt_of_lt_of_le hg hb1.size, fun e => by have := (hlt1 g e).1; have h5 : g < w.heap.size := hg; omega⟩)
  clear ho HCW
  have hz1 := hb1.size
  go_wp2_with (at_builtin; refine Hid.out ?_)
  change wpList _ _ _ _ _ _
  refine wpList_appAll (E := encWr) tyWrs rfl _ _ rfl rfl hO.out (news := b) rfl rfl hD.out (fun _ h => h.1) hz1 (by unfold maxLen; omega) (by omega) ?_
  intro A2 c2 w2 hown2 hg2 hat2
  rw [hcat.out] at hown2
  have hb2 : Below w.heap.size w w2 := hb1.grown hg2 hz1 (fun g h => (hlt1 g h).1)
  obtain ⟨A', c', he, k1, k2, k3⟩ := hown2.reads (S' := Bl w2.heap.size) (fun g hg => Nat.lt_of_lt_of_le hg.1 hg2.size) (fun g hg => (hown2.lt g hg).2)
  simp only [List.cons.injEq, Value.slice.injEq, and_true] at he
  obtain ⟨rfl, hh, rfl⟩ := he
  clear hh
  have HF := Lib.hid (refFold_any A2 c2 cat w2 k3 (by rw [hcl.out]; omega))
  obtain ⟨en, hen⟩ : ∃ en, Hid (errOf placedN cat = en) := ⟨_, rfl⟩
  rw [hrr.out, hcl.out, hen.out] at HF
  clear k1 k2 hown2 hg2 hat2 k3 hlt1
  go_wp2_with fail
  refine HF.out.mono ?_
  rintro e w3 ⟨A3, c3, rfl, t1, t2, t3, hb3⟩
  have hz2 := hb2.size
  go_wp2
  go_ret
  exact ⟨A3, c3, rfl, t1, t2, t3.more (fun g hg => ⟨by have := hg.1; omega, hg.2⟩), ext_trans hb2 hb3⟩

end Go.Proofs.YtgndgkjefgjamaaGreat

namespace Go.Proofs.YtgndgkjefgjamaaGreat
open Go.RowKit Go.Shelf
attribute [local go_sem] Oper.semAt_some

theorem OwnX.storeSv {X : Nat → Prop} {w : World} {lo g n c : Nat} {T : TypeId} {l : List Snp} (h : OwnX X encSnp w lo T (.slice (some ⟨g, 0, none⟩) n c) l) {i : Nat} (hi : i < l.length) {d : List Wr} {D : Option Addr} {dc : Nat}
    (h3 : d.length ≤ dc) (h4 : dc ≤ maxLen) (h5 : SlAt encWr w (fun b => Nw lo w.heap.size b ∧ ¬ X b ∧ b ≠ g) D d) :
    OwnX X encSnp (w.setCell ⟨g, i * 3 + 2, none⟩ (.slice D d.length dc)) lo T (.slice (some ⟨g, 0, none⟩) n c) (l.set i (l[i].1, l[i].2.1, d)) := by
  have hg : (Value.slice (some ⟨g, 0, none⟩) n c).ownBlock = some g := rfl
  refine ⟨?_, h.2⟩
  have h6 := h5.more (S' := fun b => Nw lo w.heap.size b ∧ ¬ X b ∧ (Value.slice (some ⟨g, 0, none⟩) n c).ownBlock ≠ some b) (fun b hb => ⟨hb.1, hb.2.1, by rw [hg]; intro e; injection e with e; exact hb.2.2 e.symm⟩)
  have := Own.stored (E := encSnp) h.1 (j := 2) hi (by decide) (.slice D d.length dc) (l[i].1, l[i].2.1, d) (fun cs hr => by
    obtain ⟨D', c', rfl, k1, k2, _, _, _⟩ := snp_cs hr
    exact snp_mk (x := (l[i].1, l[i].2.1, d)) k1 k2 h3 h4 h6)
  rw [show (w.setCell ⟨g, i * 3 + 2, none⟩ (.slice D d.length dc)).heap.size = w.heap.size by simp [World.setCell]]
  exact this
theorem OwnX.noX {α : Type} {X : Nat → Prop} {E : Enc α} {w : World} {lo n c : Nat} {T : TypeId} {A : Option Addr} {l : List α} (h : OwnX X E w lo T (.slice A n c) l) (hn : l.length = n) : OwnX (fun _ => False) E w lo T (.slice A l.length c) l := by
  rw [hn]; exact h.var (fun _ h => h.elim)
end Go.Proofs.YtgndgkjefgjamaaGreat
namespace Go.Proofs.YtgndgkjefgjamaaGreat
open Go.RowKit Go.Shelf
attribute [local go_sem] Oper.semAt_some

set_option maxHeartbeats 2000000 in
set_option maxRecDepth 100000 in
theorem rcChanged_any (S : Nat → Prop) (A A2 A3 B D : Option Addr) (c c2 c3 n m p vc dc : Nat) (s : Sns) (cl : List Cln) (e0 : Int) (w : World) (hp : cl.length = p) (hvc : s.1.length ≤ vc ∧ vc ≤ maxLen) (hdc : s.2.length ≤ dc ∧ dc ≤ maxLen) (hc3 : p ≤ c3 ∧ c3 ≤ maxLen) (h1 : SlAt (encSl encSec) w (fun q => S q ∧ q < w.heap.size) B s.1) (h2 : SlAt encSnp w (fun q => S q ∧ q < w.heap.size) D s.2) (h3 : SlAt encCln w (fun q => S q ∧ q < w.heap.size) A3 cl) :
    Calls Tryz.prog 79 #[.agg #[.slice A n c, .slice A2 m c2, .slice A3 p c3], .agg #[.slice B s.1.length vc, .slice D s.2.length dc], .int .i64 e0] w (RdCl S (if e0 = 0 then (s, cl) else zCls) e0 w) := by
  subst hp
  obtain ⟨n0, hn0⟩ : ∃ n0, w.heap.size = n0 := ⟨_, rfl⟩
  obtain ⟨wa, hwa⟩ : ∃ wa, w.alloc (.cells #[.slice A n c, .slice A2 m c2, .slice A3 cl.length c3] 29) = wa := ⟨_, rfl⟩
  obtain ⟨wb, hwb⟩ : ∃ wb, wa.alloc (.cells #[.slice B s.1.length vc, .slice D s.2.length dc] 26) = wb := ⟨_, rfl⟩
  obtain ⟨W0, hW0⟩ : ∃ W0, wb.alloc (.cells #[.slice none 0 0, .slice none 0 0, .slice none 0 0] 29) = W0 := ⟨_, rfl⟩
  have hba : Below n0 w wa := by rw [← hwa, ← hn0]; exact ext_alloc (Below.refl _ _)
  have hsa : wa.heap.size = n0 + 1 := by rw [← hwa, ← hn0]; simp
  have hbb : Below (n0 + 1) wa wb := by rw [← hwb, ← hsa]; exact ext_alloc (Below.refl _ _)
  have hsb : wb.heap.size = n0 + 1 + 1 := by rw [← hwb, ← hsa]; simp
  have hbc : Below (n0 + 1 + 1) wb W0 := by rw [← hW0, ← hsb]; exact ext_alloc (Below.refl _ _)
  have hsc : W0.heap.size = n0 + 1 + 1 + 1 := by rw [← hW0, ← hsb]; simp
  have hra : wa.heap[n0]? = some (.cells #[.slice A n c, .slice A2 m c2, .slice A3 cl.length c3] 29 (0, 0)) := by rw [← hwa, ← hn0]; exact heap_alloc_new _ _
  have hrb : wb.heap[n0 + 1]? = some (.cells #[.slice B s.1.length vc, .slice D s.2.length dc] 26 (0, 0)) := by rw [← hwb, ← hsa]; exact heap_alloc_new _ _
  have hrc : W0.heap[n0 + 1 + 1]? = some (.cells #[.slice none 0 0, .slice none 0 0, .slice none 0 0] 29 (0, 0)) := by rw [← hW0, ← hsb]; exact heap_alloc_new _ _
  have hr0 := (hbc.block n0 (by omega)).trans ((hbb.block n0 (by omega)).trans hra)
  have hr1 := (hbc.block (n0 + 1) (by omega)).trans hrb
  have hB0 : Below w.heap.size w W0 := by rw [hn0]; exact hba.trans ((hbb.mono (by omega)).trans (hbc.mono (by omega)))
  have hN0 : n0 ≤ w.heap.size ∧ w.heap.size ≤ n0 := by omega
  obtain ⟨p0, p1, p2, _⟩ := blk3 hr0
  obtain ⟨q0, q1, _⟩ := blk2 hr1
  obtain ⟨v0, v1, v2, vf⟩ := blk3 hrc
  have HW : Hid (w.alloc (.cells #[.slice A n c, .slice A2 m c2, .slice A3 cl.length c3] 29) = wa) := hwa
  clear hra hrb hba hbb hbc
  go_enter Tryz.func79, Tryz.ntmps79
  by_cases hx0 : e0 = 0
  case neg =>
    have hx0' : (e0 != 0) = true := by simp [hx0]
    rw [if_neg hx0]
    clear hx0
    go_wp2_with fail
    have hend := rd_end (w := w) (x := zCls) (A := none) (c := 0) (D := none) (d := 0) (G := none) (g := 0) hrc (by omega) hB0 (ClAt.zero (S := fun q => S q ∧ q < W0.heap.size ∧ q ≠ n0 + 1 + 1)) e0
    obtain ⟨hz, hret⟩ := hend
    change bodyPost _ _ _ _ _ (sw3 W0 (n0 + 1 + 1) (.slice none (zCls).1.1.length 0) (.slice none (zCls).1.2.length 0) (.slice none (zCls).2.length 0))
    generalize sw3 W0 (n0 + 1 + 1) (.slice none (zCls).1.1.length 0) (.slice none (zCls).1.2.length 0) (.slice none (zCls).2.length 0) = W3 at hz hret ⊢
    obtain ⟨z0, z1, z2, _⟩ := blk3 hz
    refine bodyPost_ret (v := .tuple #[.agg #[.slice none (zCls).1.1.length 0, .slice none (zCls).1.2.length 0, .slice none (zCls).2.length 0], .int .i64 e0]) ?_ rfl ?_
    · simp [results, Tryz.results79, Tryz.f79, go_sem, z0, z1, z2, zCls, zSns]
    exact hret
  have hx0' : (e0 != 0) = false := by simp [hx0]
  rw [if_pos hx0]
  subst hx0
  go_upto_region 4 with (fail)
  change Code.wp _ _ _ _ ((W0.setCell ⟨n0, 0, none⟩ (.slice B s.1.length vc)).setCell ⟨n0, 1, none⟩ (.slice D s.2.length dc))
  have hr9 : ((W0.setCell ⟨n0, 0, none⟩ (.slice B s.1.length vc)).setCell ⟨n0, 1, none⟩ (.slice D s.2.length dc)).heap[n0]? = some (.cells #[.slice B s.1.length vc, .slice D s.2.length dc, .slice A3 cl.length c3] 29 (0, 0)) := by
    simp [World.setCell, Array.getElem?_modify, hr0]
  have hk9 : ∀ x, x ≠ n0 → ((W0.setCell ⟨n0, 0, none⟩ (.slice B s.1.length vc)).setCell ⟨n0, 1, none⟩ (.slice D s.2.length dc)).heap[x]? = W0.heap[x]? := fun x hx => (heap_setCell_other _ _ _ _ hx).trans (heap_setCell_other _ _ _ _ hx)
  have hz9 : W0.heap.size ≤ ((W0.setCell ⟨n0, 0, none⟩ (.slice B s.1.length vc)).setCell ⟨n0, 1, none⟩ (.slice D s.2.length dc)).heap.size := by simp [World.setCell]
  have hb9 : Below w.heap.size w ((W0.setCell ⟨n0, 0, none⟩ (.slice B s.1.length vc)).setCell ⟨n0, 1, none⟩ (.slice D s.2.length dc)) := (hB0.setCell (p := ⟨n0, 0, none⟩) (by show w.heap.size ≤ n0; omega) _).setCell (p := ⟨n0, 1, none⟩) (by show w.heap.size ≤ n0; omega) _
  generalize (W0.setCell ⟨n0, 0, none⟩ (.slice B s.1.length vc)).setCell ⟨n0, 1, none⟩ (.slice D s.2.length dc) = w9 at hr9 hk9 hz9 hb9 ⊢
  clear p0 p1 p2 q0 q1 v0 v1 v2 vf
  have hrr := (hk9 (n0 + 1 + 1) (by omega)).trans hrc
  have HCL : Hid (ClAt ((s, cl) : Cls) B vc D dc A3 c3 (fun q => S q ∧ q < w9.heap.size ∧ q ≠ n0 + 1 + 1) w9) :=
    ⟨⟨hvc.1, hvc.2, (h1.blk (fun g hg => hb9.block g hg.2)).more (fun g hg => by have := hg.2; exact ⟨hg.1, by omega, by omega⟩)⟩,
      ⟨hdc.1, hdc.2, (h2.blk (fun g hg => hb9.block g hg.2)).more (fun g hg => by have := hg.2; exact ⟨hg.1, by omega, by omega⟩)⟩,
      ⟨hc3.1, hc3.2, (h3.blk (fun g hg => hb9.block g hg.2)).more (fun g hg => by have := hg.2; exact ⟨hg.1, by omega, by omega⟩)⟩⟩
  obtain ⟨p0, p1, p2, _⟩ := blk3 hr9
  obtain ⟨v0, v1, v2, vf⟩ := blk3 hrr
  clear hk9
  go_wp2_with fail
  have hend := rd_end (w := w) (x := ((s, cl) : Cls)) (A := B) (c := vc) (D := D) (d := dc) (G := A3) (g := c3) hrr (by omega) hb9 HCL.out 0
  obtain ⟨hz, hret⟩ := hend
  change bodyPost _ _ _ _ _ (sw3 w9 (n0 + 1 + 1) (.slice B (((s, cl) : Cls)).1.1.length vc) (.slice D (((s, cl) : Cls)).1.2.length dc) (.slice A3 (((s, cl) : Cls)).2.length c3))
  generalize sw3 w9 (n0 + 1 + 1) (.slice B (((s, cl) : Cls)).1.1.length vc) (.slice D (((s, cl) : Cls)).1.2.length dc) (.slice A3 (((s, cl) : Cls)).2.length c3) = W3 at hz hret ⊢
  obtain ⟨z0, z1, z2, _⟩ := blk3 hz
  refine bodyPost_ret (v := .tuple #[.agg #[.slice B (((s, cl) : Cls)).1.1.length vc, .slice D (((s, cl) : Cls)).1.2.length dc, .slice A3 (((s, cl) : Cls)).2.length c3], .int .i64 0]) ?_ rfl ?_
  · simp [results, Tryz.results79, Tryz.f79, go_sem, z0, z1, z2, zCls, zSns]
  exact hret
end Go.Proofs.YtgndgkjefgjamaaGreat
namespace Go.Proofs.YtgndgkjefgjamaaGreat
open Go.RowKit Go.Shelf
attribute [local go_sem] Oper.semAt_some

section
variable {t t' : Nat} {x x' : Cls} {A D G A' D' G' : Option Addr} {c d g c' d' g' : Nat} {W W' : World} {n' : Int} {S : Nat → Prop}
theorem ClI.store2 {c0 c1 c2 : Value} (h : ClAt x A c D d G g S W) (hr : W.heap[t]? = some (.cells #[c0, c1, c2] 29 (0, 0))) (hS : ∀ q, S q → q ≠ t ∧ q < W.heap.size) : ClI t x A c D d G g (sw3 W t (.slice A x.1.1.length c) (.slice D x.1.2.length d) (.slice G x.2.length g)) :=
  ⟨sw3_row hr _ _ _, h.keep (fun q hq => sw3_other (hS q hq).1 _ _ _) (fun q hq => ⟨(hS q hq).1, by rw [sw3_sz]; exact (hS q hq).2⟩)⟩
theorem ClJ.store2 {u : Nat} {c0 c1 c2 : Value} (h : ClAt x A c D d G g S W) (hr : W.heap[t]? = some (.cells #[c0, c1, c2] 29 (0, 0))) (hS : ∀ q, S q → q ≠ t ∧ q ≠ u ∧ q < W.heap.size) : ClJ t u x A c D d G g (sw3 W t (.slice A x.1.1.length c) (.slice D x.1.2.length d) (.slice G x.2.length g)) :=
  ⟨sw3_row hr _ _ _, h.keep (fun q hq => sw3_other (hS q hq).1 _ _ _) (fun q hq => ⟨(hS q hq).1, (hS q hq).2.1, by rw [sw3_sz]; exact (hS q hq).2.2⟩)⟩
end
end Go.Proofs.YtgndgkjefgjamaaGreat
