/-
  The law of Write and Image on clones: the walk.
-/
import Derived.BigQuiet
import Derived.Test.YtgndgkjefgjamaaGreatZ01
import Derived.Test.YtgndgkjefgjamaaGreatZ02
import Derived.Test.YtgndgkjefgjamaaGreatZ03
import Derived.Test.YtgndgkjefgjamaaGreatZ04
import Derived.Test.YtgndgkjefgjamaaGreatZ05
import Derived.Test.YtgndgkjefgjamaaGreatZ06
import Derived.Test.YtgndgkjefgjamaaGreatZ07
import Derived.Test.YtgndgkjefgjamaaGreatZ08
import Derived.Test.YtgndgkjefgjamaaGreatZ09
import Derived.Test.YtgndgkjefgjamaaGreatZ10
import Derived.Test.YtgndgkjefgjamaaGreatZ11
import Derived.Test.YtgndgkjefgjamaaGreatZ12
import Derived.Test.YtgndgkjefgjamaaGreatZ13
import Derived.Test.YtgndgkjefgjamaaGreatZ14
import Derived.Test.YtgndgkjefgjamaaGreatZ15
import Derived.Test.YtgndgkjefgjamaaGreatZ16
import Derived.Test.YtgndgkjefgjamaaGreatZ17
import Derived.Test.YtgndgkjefgjamaaGreatZ18
import Derived.Test.YtgndgkjefgjamaaGreatZ21
import Derived.Test.YtgndgkjefgjamaaGreatZ23
import Derived.Test.YtgndgkjefgjamaaGreatZ26
set_option linter.unusedVariables false
set_option linter.unusedSimpArgs false
set_option linter.unusedSectionVars false
set_option linter.unnecessarySimpa false
namespace Go.Proofs.YtgndgkjefgjamaaGreat
open Go.RowKit Go.Shelf
attribute [local go_sem] Oper.semAt_some

set_option maxHeartbeats 8000000 in
set_option maxRecDepth 100000 in
theorem writes37_any (x : Cls) (A D G Dw : Option Addr) (c d g dw wl : Nat) (nm : ByteArray) (v s : Int) (data : List Sec) (w : World) (h : ClAt x A c D d G g (Bl w.heap.size) w) (hnm : nm.size ≤ maxLen) (hwl : data.length = wl) (h4 : SlAt encSec w (Bl w.heap.size) Dw data) (hvs : I64 v ∧ I64 s) (hdc : wl ≤ dw ∧ dw ≤ maxLen) :
    Calls Tryz.prog 4 #[.agg #[.slice A x.1.1.length c, .slice D x.1.2.length d, .slice G x.2.length g], .string nm, .agg #[.int .i64 v, .int .i64 s, .slice Dw wl dw]] w (LawRet w) := by
  obtain ⟨t, ht⟩ : ∃ t, w.heap.size = t := ⟨_, rfl⟩
  obtain ⟨W3, hW0⟩ : ∃ W0, (w.alloc (.cells #[.slice A x.1.1.length c, .slice D x.1.2.length d, .slice G x.2.length g] 29)).alloc (.cells #[.int .i64 v, .int .i64 s, .slice Dw wl dw] 45) = W0 := ⟨_, rfl⟩
  have hB3 : Below w.heap.size w W3 := by rw [← hW0]; repeat (first | exact Below.refl _ _ | refine ext_alloc ?_)
  have hrow0 : W3.heap[t]? = some (.cells #[.slice A x.1.1.length c, .slice D x.1.2.length d, .slice G x.2.length g] 29 (0, 0)) := by rw [← hW0, ← ht]; first | exact heap_alloc_new _ _ | exact (Below.heap_alloc _ _ _ (by simp)).trans (heap_alloc_new _ _)
  have HA : Hid (ClI t x A c D d G g W3) := ⟨hrow0, h.keep (fun q hq => hB3.block q hq) (fun q hq => by have : q < w.heap.size := hq; have := hB3.size; exact ⟨by omega, by omega⟩)⟩
  have HXW : Hid (∀ W, Below w.heap.size w W → W.heap[t]? = some (.cells #[.slice A x.1.1.length c, .slice D x.1.2.length d, .slice G x.2.length g] 29 (0, 0)) → ClI t x A c D d G g W) := fun W hb hr => ⟨hr, h.keep (fun q hq => hb.block q hq) (fun q hq => by have : q < w.heap.size := hq; have := hb.size; exact ⟨by omega, by omega⟩)⟩
  have HG0 : Hid (∀ W, Below w.heap.size w W → SlAt encCln W (fun q => q < w.heap.size ∧ q < W.heap.size) G x.2) := fun W hb => (h.cl.2.2.blk (fun q hq => hb.block q hq)).more (fun q hq => ⟨hq, by have : q < w.heap.size := hq; have := hb.size; omega⟩)
  obtain ⟨q, hq⟩ : ∃ q, fewC x = q := ⟨_, rfl⟩
  have HFW := Lib.hid (riFew HA.out hq)
  have htw : w.heap.size ≤ t ∧ t ≤ w.heap.size := by omega
  have HQ := Lib.hid hq
  clear h hrow0 hq
  have hrw : W3.heap[t + 1]? = some (.cells #[.int .i64 v, .int .i64 s, .slice Dw wl dw] 45 (0, 0)) := by rw [← hW0, ← ht]; exact heap_new2 _ _ _
  have HWR : Hid (W3.heap[t + 1]? = some (.cells #[.int .i64 v, .int .i64 s, .slice Dw wl dw] 45 (0, 0))) := hrw
  have htl := (Array.getElem?_eq_some_iff.1 hrw).1
  have H4 : Hid (∀ W, Below w.heap.size w W → SlAt encSec W (Bl W.heap.size) Dw data) := fun W hb => h4.fwd hb
  clear h4 hrw
  obtain ⟨k0, k1, k2, kf⟩ := blk3 HA.out.row
  go_enter Tryz.func4, Tryz.ntmps4
  go_wp2_with fail
  clear hW0 ht
  refine HFW.out.mono ?_
  rintro e w1 ⟨rfl, hb1⟩
  replace HA := Lib.hid (HA.out.below hb1)
  have hrw1 := (hb1.block (t + 1) htl).trans HWR.out
  have htl1 : t + 1 < w1.heap.size := by have := hb1.size; omega
  clear HWR htl
  have hB1 := ext_trans hB3 hb1
  clear k0 k1 k2 kf HFW hB3
  have hB3 := hB1
  clear hB1
  cases q with
  | false =>
    go_wp2_with fail
    refine (awake37_any _).mono ?_
    rintro e wz ⟨rfl, hbz⟩
    go_wp2
    go_ret
    exact ⟨rfl, ext_trans hB3 hbz⟩
  | true =>
  by_cases hnl : nm.size ≤ 100
  case neg =>
    have hnl' : (100 : Int) < nm.size := by omega
    clear hnl
    go_wp2_with fail
    refine (awake37_any _).mono ?_
    rintro e wz ⟨rfl, hbz⟩
    go_wp2
    go_ret
    exact ⟨rfl, ext_trans hB3 hbz⟩
  have hnl' : ¬ (100 : Int) < nm.size := by omega
  obtain ⟨y0, y1, y2, _⟩ := blk3 hrw1
  by_cases hwl2 : wl ≤ 200
  case neg =>
    have hwl' : (200 : Int) < wl := by omega
    clear hwl2
    go_wp2_with fail
    refine (awake37_any _).mono ?_
    rintro e wz ⟨rfl, hbz⟩
    go_wp2
    go_ret
    exact ⟨rfl, ext_trans hB3 hbz⟩
  have hwl' : ¬ (200 : Int) < wl := by omega
  obtain ⟨x1, hx1⟩ : ∃ y, wrS x nm (v, s, data) = y := ⟨_, rfl⟩
  obtain ⟨n1, hn1⟩ : ∃ y, wrE x nm (v, s, data) = y := ⟨_, rfl⟩
  obtain ⟨r2, hr2⟩ : ∃ y, cIm x nm = y := ⟨_, rfl⟩
  obtain ⟨n2, hn2⟩ : ∃ y, cfE x nm = y := ⟨_, rfl⟩
  have E1 := Lib.hid (And.intro hx1 hn1); have E2 := Lib.hid hr2; have E3 := Lib.hid hn2
  have HWL := Lib.hid hwl
  clear hx1 hn1 hr2 hn2 hnl hwl
  obtain ⟨W3, rfl⟩ : ∃ W : World, W = w1 := ⟨_, rfl⟩
  obtain ⟨k0, k1, k2, kf⟩ := blk3 HA.out.row
  go_wp2_with fail
  refine (ciWrite HA.out HQ.out HWL.out E1.out (H4.out _ hB3) hvs (by omega) hdc).mono ?_
  rintro e w5 ⟨A1, c1, D1, d1, G1, g1, rfl, hat, hb5⟩
  clear k0 k1 k2 kf
  clear y0 y1 y2
  obtain ⟨t1, ht1⟩ : ∃ u, w5.heap.size = u := ⟨_, rfl⟩
  obtain ⟨W6, hW6⟩ : ∃ W6, w5.alloc (.cells #[.slice A1 (x1).1.1.length c1, .slice D1 (x1).1.2.length d1, .slice G1 (x1).2.length g1] 29) = W6 := ⟨_, rfl⟩
  have HV1 : Hid (ClI t1 x1 A1 c1 D1 d1 G1 g1 W6) := by rw [Hid, ← hW6, ← ht1]; exact ClI.mkNew hat (fun q hq => hq.2)
  have hbX : Below W3.heap.size W3 W6 := by rw [← hW6]; exact ext_alloc hb5
  have hB6 := ext_trans hB3 hbX
  have hz1 : W3.heap.size ≤ t1 := by have := hb5.size; omega
  clear hat hb5 hB3 hnl'
  go_upto_region 4 with (fail)
  try rw [hW6]
  try rw [ht1]
  clear hW6 ht1
  have hB3 := hB6
  clear hB6
  replace HA := Lib.hid (HA.out.below hbX)
  have hrw2 := (hbX.block (t + 1) htl1).trans hrw1
  have htl2 : t + 1 < W6.heap.size := by have := hbX.size; omega
  clear hbX htl1 hrw1
  obtain ⟨W3, rfl⟩ : ∃ W : World, W = W6 := ⟨_, rfl⟩
  obtain ⟨y0, y1, y2, _⟩ := blk3 hrw2
  obtain ⟨k0, k1, k2, kf⟩ := blk3 HA.out.row
  go_wp2_with fail
  refine (riWrite HA.out HQ.out HWL.out E1.out (H4.out _ hB3) hvs (by omega) hdc).mono ?_
  rintro e w5 ⟨A2, c2, D2, d2, G2, g2, rfl, hat, hb5⟩
  clear k0 k1 k2 kf
  clear y0 y1 y2
  obtain ⟨t2, ht2⟩ : ∃ u, w5.heap.size = u := ⟨_, rfl⟩
  obtain ⟨W6, hW6⟩ : ∃ W6, w5.alloc (.cells #[.slice A2 (x1).1.1.length c2, .slice D2 (x1).1.2.length d2, .slice G2 (x1).2.length g2] 29) = W6 := ⟨_, rfl⟩
  have HV2 : Hid (ClI t2 x1 A2 c2 D2 d2 G2 g2 W6) := by rw [Hid, ← hW6, ← ht2]; exact ClI.mkNew hat (fun q hq => hq.2)
  have hbX : Below W3.heap.size W3 W6 := by rw [← hW6]; exact ext_alloc hb5
  have hB6 := ext_trans hB3 hbX
  have hz2 : W3.heap.size ≤ t2 := by have := hb5.size; omega
  clear hat hb5 hB3 hwl'
  go_upto_region 5 with (fail)
  try rw [hW6]
  try rw [ht2]
  clear hW6 ht2
  have hB3 := hB6
  clear hB6
  replace HA := Lib.hid (HA.out.below hbX)
  replace HV1 := Lib.hid (HV1.out.below hbX)
  clear hbX hrw2 htl2
  obtain ⟨W3, rfl⟩ : ∃ W : World, W = W6 := ⟨_, rfl⟩
  obtain ⟨k0, k1, k2, kf⟩ := blk3 HA.out.row
  go_wp2_with fail
  refine (ciImage HA.out HQ.out ⟨E2.out, E3.out⟩ rfl).mono ?_
  rintro e w5 ⟨B3, b3, rfl, i1, i2, i3, hb5⟩
  clear k0 k1 k2 kf
  have HI1 := Lib.hid (show SlAt (encSl encSec) w5 (Bl w5.heap.size) B3 r2 from i3.more (fun q hq => hq.2))
  replace HA := Lib.hid (HA.out.below hb5)
  replace HV1 := Lib.hid (HV1.out.below hb5)
  replace HV2 := Lib.hid (HV2.out.below hb5)
  have hB6 := ext_trans hB3 hb5
  clear i3 hb5 hB3 i2
  go_upto_region 6 with (fail)
  have hB3 := hB6
  clear hB6
  obtain ⟨W3, rfl⟩ : ∃ W : World, W = w5 := ⟨_, rfl⟩
  obtain ⟨k0, k1, k2, kf⟩ := blk3 HA.out.row
  go_wp2_with fail
  refine (riImage HA.out HQ.out E2.out E3.out).mono ?_
  rintro e w5 ⟨B4, b4, rfl, j1, j2, j3, hb5⟩
  clear k0 k1 k2 kf
  have HI2 := Lib.hid (show SlAt (encSl encSec) w5 (Bl w5.heap.size) B4 r2 from j3.more (fun q hq => hq.2))
  replace HI1 := Lib.hid (HI1.out.fwd hb5)
  replace HV1 := Lib.hid (HV1.out.below hb5)
  replace HV2 := Lib.hid (HV2.out.below hb5)
  have hB6 := ext_trans hB3 hb5
  have hrl : r2.length ≤ 9223372036854775807 := by unfold maxLen at j2; omega
  clear j3 hb5 hB3 j2 HA
  go_upto_region 7 with (fail)
  have hB3 := hB6
  clear hB6
  obtain ⟨W3, rfl⟩ : ∃ W : World, W = w5 := ⟨_, rfl⟩
  go_wp2_with fail
  refine (awake37_any _).mono ?_
  rintro e wz ⟨rfl, hbz⟩
  replace HI1 := Lib.hid (HI1.out.fwd hbz)
  replace HI2 := Lib.hid (HI2.out.fwd hbz)
  replace HV1 := Lib.hid (HV1.out.below hbz)
  replace HV2 := Lib.hid (HV2.out.below hbz)
  obtain ⟨k0, k1, k2, kf⟩ := blk3 HV1.out.row
  obtain ⟨l0, l1, l2, lf⟩ := blk3 HV2.out.row
  go_wp2_with fail
  refine (riSame HV1.out HV2.out).mono ?_
  rintro e w6 ⟨rfl, hb6⟩
  clear k0 k1 k2 kf l0 l1 l2 lf
  go_wp2_with fail
  refine (sameImg07_any B3 B4 b3 b4 _ _ r2 r2 w6 (HI1.out.fwd hb6) (HI2.out.fwd hb6) hrl hrl).mono ?_
  rw [beq_self_eq_true]
  rintro e w7 ⟨rfl, hd7⟩
  go_wp2_with fail
  go_ret
  exact ⟨rfl, ext_trans hB3 (ext_trans (ext_trans hbz hb6) (hd7.below _))⟩
end Go.Proofs.YtgndgkjefgjamaaGreat
