/-
  A sector stored; the reference's Fits, its copy of an image that it owns, its Apply.; Reference 37: Image.
-/
import Derived.BigQuiet
import Derived.Test.YtgndgkjefgjamaaGreatZ01
import Derived.Test.YtgndgkjefgjamaaGreatZ02
import Derived.Test.YtgndgkjefgjamaaGreatZ03
import Derived.Test.YtgndgkjefgjamaaGreatZ04
import Derived.Test.YtgndgkjefgjamaaGreatZ05
import Derived.Test.YtgndgkjefgjamaaGreatZ06
import Derived.Test.YtgndgkjefgjamaaGreatZ07
import Derived.Test.YtgndgkjefgjamaaGreatZ08
import Derived.Test.YtgndgkjefgjamaaGreatZ09
import Derived.Test.YtgndgkjefgjamaaGreatZ10
import Derived.Test.YtgndgkjefgjamaaGreatZ11
import Derived.Test.YtgndgkjefgjamaaGreatZ12
import Derived.Test.YtgndgkjefgjamaaGreatZ13
import Derived.Test.YtgndgkjefgjamaaGreatZ16
import Derived.Test.YtgndgkjefgjamaaGreatZ18
set_option linter.unusedVariables false
set_option linter.unusedSimpArgs false
set_option linter.unusedSectionVars false
set_option linter.unnecessarySimpa false
namespace Go.Proofs.YtgndgkjefgjamaaGreat
open Go.RowKit Go.Shelf
attribute [local go_sem] Oper.semAt_some

section
variable {w : World} {g k b : Nat} {x0 x1 x2 x3 x4 x5 x6 x7 : Int}
end
end Go.Proofs.YtgndgkjefgjamaaGreat

namespace Go.Proofs.YtgndgkjefgjamaaGreat
open Go.RowKit Go.Shelf
attribute [local go_sem] Oper.semAt_some

end Go.Proofs.YtgndgkjefgjamaaGreat

namespace Go.Proofs.YtgndgkjefgjamaaGreat
open Go.RowKit Go.Shelf
attribute [local go_sem] Oper.semAt_some

set_option maxHeartbeats 1000000 in
theorem refFind0_any (A A2 : Option Addr) (c c2 n m : Nat) (im : Img) (l : List Snp) (num r : Int) (w : World) (hn : im.length = n) (hm : l.length = m) (hr : idxAt (numIs num) l = r) (h2 : SlAt encSnp w (Bl w.heap.size) A2 l) (hl2 : m ≤ 9223372036854775807) :
    Calls Tryz.prog 153 #[.agg #[.slice A n c, .slice A2 m c2], .int .i64 num] w fun e w' => e = .returned (.int .i64 r) ∧ Below w.heap.size w w' := by
  subst hn hm
  have HR := Lib.hid hr
  have H2 : Hid (∀ w', Below w.heap.size w w' → SlAt encSnp w' (Bl w.heap.size) A2 l) := fun w' hb => h2.below hb
  clear h2 hr
  obtain ⟨W0, hW0⟩ : ∃ W0, w.alloc (.cells #[.slice A im.length c, .slice A2 l.length c2] 26) = W0 := ⟨_, rfl⟩
  have hB0 : Below w.heap.size w W0 := by rw [← hW0]; exact ext_alloc (Below.refl _ _)
  have hr0 : W0.heap[w.heap.size]? = some (.cells #[.slice A im.length c, .slice A2 l.length c2] 26 (0, 0)) := by rw [← hW0]; exact heap_alloc_new _ _
  obtain ⟨c0, c1, _⟩ := blk2 hr0
  have h2' := H2.out W0 hB0
  clear hr0
  have HW0 := Lib.hid hW0
  clear hW0
  go_enter Tryz.func153, Tryz.ntmps153
  go_wp2
  rw [HW0.out]
  go_loopw [5] (fun i wr => wr = W0 ∧ ∃ k : Nat, k ≤ l.length ∧ i = .int .i64 k ∧ Hid (idxAt (numIs num) l = (idxAt (numIs num) (l.drop k)) + (if 0 ≤ idxAt (numIs num) (l.drop k) then (k : Int) else 0))) (fun i _ => l.length - (intOf i).toNat)
  case atStart => exact ⟨rfl, 0, by omega, rfl, by simp [Hid]⟩
  case round =>
    obtain ⟨rfl, k, hk, rfl, hz⟩ := hrel
    by_cases hlt : k < l.length
    · have hki : (k : Int) < l.length := by omega
      have hnn : (0 : Int) ≤ k := by omega
      obtain ⟨b, off, D, dc, rfl, hb, g0, g1, g2, hD, hn1, hn2, _, _⟩ := h2'.snp hlt
      have hst := idxAt_drop (P := numIs num) hlt
      obtain ⟨x, hx⟩ : ∃ x, (l[k]'hlt).1 = x := ⟨_, rfl⟩
      have hP : numIs num (l[k]'hlt) = (x == num) := by rw [numIs, hx]
      rw [hP] at hst
      rw [hx] at g0
      have HST := Lib.hid hst
      clear hst hD hn1 hn2 hP hx
      by_cases hxn : x = num
      · have hq : (x == num) = true := by simp [hxn]
        have hE : Hid (idxAt (numIs num) l = k) := by
          rw [Hid, hz.out, HST.out, hq]; simp
        clear hxn
        go_wp2_with fail
        go_ret
        exact ⟨ret_int (by rw [← HR.out, hE.out]), hB0⟩
      · have hq : (x == num) = false := by simp [hxn]
        have hE : Hid (idxAt (numIs num) l = (idxAt (numIs num) (l.drop (k + 1))) + (if 0 ≤ idxAt (numIs num) (l.drop (k + 1)) then ((k + 1 : Nat) : Int) else 0)) := by
          rw [Hid, hz.out, HST.out, hq, if_neg (by decide : ¬ false = true)]
          rcases idxAt_cases (numIs num) (l.drop (k + 1)) with hp | hp
          · rw [hp]; simp
          · rw [if_pos hp, if_pos hp, if_pos (by omega)]; omega
        clear hxn
        go_wp2_with fail
        go_roundw
        case rel => exact ⟨by trivial, k + 1, hlt, by go_num, hE.out⟩
        case measure => simp [intOf]; omega
    · have hkk : k = l.length := by omega
      subst hkk
      have hE : Hid (idxAt (numIs num) l = -1) := by rw [Hid, hz.out, List.drop_length]; simp [idxAt]
      go_wp2_with fail
      go_ret
      exact ⟨ret_int (by rw [← HR.out, hE.out]), hB0⟩
set_option maxHeartbeats 1000000 in
theorem refFind_any (A A2 : Option Addr) (c c2 n m : Nat) (im : Img) (l : List Snp) (num : Int) (w : World) (hn : im.length = n) (hm : l.length = m) (h1 : SlAt (encSl encSec) w (Bl w.heap.size) A im) (h2 : SlAt encSnp w (Bl w.heap.size) A2 l) (hl1 : n ≤ 100000) (hl2 : m ≤ 9223372036854775807) :
    Calls Tryz.prog 124 #[.agg #[.slice A n c, .slice A2 m c2], .int .i64 num] w fun e w' => e = .returned (.tuple #[.int .i64 (findN (im, l) num : Nat), .int .i64 (findE (im, l) num)]) ∧ Below w.heap.size w w' := by
  subst hn hm
  have H1 : Hid (∀ w', Below w.heap.size w w' → SlAt (encSl encSec) w' (Bl w.heap.size) A im) := fun w' hb => h1.below hb
  have H2 : Hid (∀ w', Below w.heap.size w w' → SlAt encSnp w' (Bl w.heap.size) A2 l) := fun w' hb => h2.below hb
  clear h1 h2
  obtain ⟨W0, hW0⟩ : ∃ W0, w.alloc (.cells #[.slice A im.length c, .slice A2 l.length c2] 26) = W0 := ⟨_, rfl⟩
  have hB0 : Below w.heap.size w W0 := by rw [← hW0]; exact ext_alloc (Below.refl _ _)
  have hr0 : W0.heap[w.heap.size]? = some (.cells #[.slice A im.length c, .slice A2 l.length c2] 26 (0, 0)) := by rw [← hW0]; exact heap_alloc_new _ _
  have hs0 : w.heap.size < W0.heap.size := (Array.getElem?_eq_some_iff.1 hr0).1
  obtain ⟨r, hr⟩ : ∃ r, Hid (snE (im, l) = r) := ⟨_, rfl⟩
  have HCK := Lib.hid (refSnCheck_any A A2 c c2 im.length l.length im l r W0 rfl rfl hr.out ((H1.out W0 hB0).more (Bl.mono hB0.size)) ((H2.out W0 hB0).more (Bl.mono hB0.size)) hl1 hl2)
  obtain ⟨c0, c1, _⟩ := blk2 hr0
  go_enter Tryz.func124, Tryz.ntmps124
  go_wp2_with fail
  refine HCK.out.mono ?_
  rintro e w1 ⟨rfl, hb1⟩
  have hbw1 : Below w.heap.size w w1 := ext_trans hB0 hb1
  have hrp1 := (hb1.block w.heap.size (by omega)).trans hr0
  clear HCK hW0 hr0 c0 c1
  by_cases hx0 : r = 0
  case neg =>
    have hx0' : (r != 0) = true := by simp [hx0]
    have hE : Hid (findE (im, l) num = r) := by rw [Hid, findE, hr.out, if_pos hx0]
    have hN : Hid (findN (im, l) num = 0) := by rw [Hid, findN, if_neg (by rw [hE.out]; exact hx0)]
    clear hx0
    go_wp2_with fail
    go_ret2
    rw [hE.out, hN.out]
    exact ⟨rfl, hbw1⟩
  have hx0' : (r != 0) = false := by simp [hx0]
  have HOK : Hid (snE (im, l) = 0) := by rw [Hid, hr.out, hx0]
  clear hx0 hr
  obtain ⟨i, hi⟩ : ∃ i, Hid (idxAt (numIs num) l = i) := ⟨_, rfl⟩
  have HIX := Lib.hid (refFind0_any A A2 c c2 im.length l.length im l num i w1 rfl rfl hi.out ((H2.out w1 hbw1).more (Bl.mono hbw1.size)) hl2)
  obtain ⟨c0, c1, _⟩ := blk2 hrp1
  go_wp2_with fail
  refine HIX.out.mono ?_
  rintro e w2 ⟨rfl, hb2⟩
  have hbw2 : Below w.heap.size w w2 := ext_trans hbw1 hb2
  have hfi := idxAt_find (numIs num) l
  rw [hi.out] at hfi
  clear HIX c0 c1
  cases hq : l.findIdx? (numIs num) with
  | none =>
    rw [hq] at hfi
    have hE : Hid (findE (im, l) num = 7) := by
      have : findI l num = none := hq
      rw [Hid, findE, HOK.out, if_neg (by decide)]; show (if (findI l num).isNone = true then (7 : Int) else 0) = 7; rw [this]; rfl
    have hN : Hid (findN (im, l) num = 0) := by rw [Hid, findN, if_neg (by rw [hE.out]; decide)]
    simp only at hfi
    subst hfi
    clear hq
    go_wp2_with fail
    go_ret2
    rw [hE.out, hN.out]
    exact ⟨rfl, hbw2⟩
  | some k =>
    rw [hq] at hfi
    have hE : Hid (findE (im, l) num = 0) := by
      have : findI l num = some k := hq
      rw [Hid, findE, HOK.out, if_neg (by decide)]; show (if (findI l num).isNone = true then (7 : Int) else 0) = 0; rw [this]; rfl
    have hN : Hid (findN (im, l) num = k) := by
      have : findI l num = some k := hq
      rw [Hid, findN, if_pos hE.out]; show (findI l num).getD 0 = k; rw [this]; rfl
    simp only at hfi
    subst hfi
    have hkn : ¬ (k : Int) < 0 := by omega
    clear hq
    go_wp2_with fail
    go_ret2
    rw [hE.out, hN.out]
    exact ⟨rfl, hbw2⟩
end Go.Proofs.YtgndgkjefgjamaaGreat

namespace Go.Proofs.YtgndgkjefgjamaaGreat
open Go.RowKit Go.Shelf
attribute [local go_sem] Oper.semAt_some

end Go.Proofs.YtgndgkjefgjamaaGreat

namespace Go.Proofs.YtgndgkjefgjamaaGreat
open Go.RowKit Go.Shelf
attribute [local go_sem] Oper.semAt_some

end Go.Proofs.YtgndgkjefgjamaaGreat

namespace Go.Proofs.YtgndgkjefgjamaaGreat
open Go.RowKit Go.Shelf
attribute [local go_sem] Oper.semAt_some

end Go.Proofs.YtgndgkjefgjamaaGreat
namespace Go.Proofs.YtgndgkjefgjamaaGreat
open Go.RowKit Go.Shelf
attribute [local go_sem] Oper.semAt_some

/-- what a search finds behind a check -/
theorem cf_cases {c : Cls} {nm : ByteArray} (h : clE c = 0) : (idxAt (isN nm) c.2 = -1 ∧ cfE c nm = 7) ∨ ∃ (k : Nat) (hk : k < c.2.length), idxAt (isN nm) c.2 = k ∧ cfE c nm = 0 ∧ cfN c nm = k ∧ cAt c nm = c.2[k] ∧ (c.2[k]).1 = nm := by
  have hx := idxAt_find (P := isN nm) (l := c.2)
  cases hf : c.2.findIdx? (isN nm) with
  | none =>
    left
    rw [hf] at hx
    exact ⟨hx, by rw [cfE, if_neg (by simp [h]), cfI, hf]; rfl⟩
  | some k =>
    right
    rw [hf] at hx
    obtain ⟨hk, h2, _⟩ := List.findIdx?_eq_some_iff_getElem.1 hf
    have hce : cfE c nm = 0 := by rw [cfE, if_neg (by simp [h]), cfI, hf]; rfl
    have hcn : cfN c nm = k := by rw [cfN, if_pos hce, cfI, hf]; rfl
    exact ⟨k, hk, hx, hce, hcn, by rw [cAt, hcn, List.getD_eq_getElem?_getD, List.getElem?_eq_getElem hk]; rfl, of_decide_eq_true h2⟩
end Go.Proofs.YtgndgkjefgjamaaGreat
