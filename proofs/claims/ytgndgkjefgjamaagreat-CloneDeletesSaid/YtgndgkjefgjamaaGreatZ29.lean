/-
  The laws of Delete, Drop, Changed, and of Replicate, Take on clones: the walks.
-/
import Derived.BigQuiet
import Derived.Test.YtgndgkjefgjamaaGreatZ01
import Derived.Test.YtgndgkjefgjamaaGreatZ02
import Derived.Test.YtgndgkjefgjamaaGreatZ03
import Derived.Test.YtgndgkjefgjamaaGreatZ04
import Derived.Test.YtgndgkjefgjamaaGreatZ05
import Derived.Test.YtgndgkjefgjamaaGreatZ06
import Derived.Test.YtgndgkjefgjamaaGreatZ07
import Derived.Test.YtgndgkjefgjamaaGreatZ08
import Derived.Test.YtgndgkjefgjamaaGreatZ09
import Derived.Test.YtgndgkjefgjamaaGreatZ10
import Derived.Test.YtgndgkjefgjamaaGreatZ11
import Derived.Test.YtgndgkjefgjamaaGreatZ12
import Derived.Test.YtgndgkjefgjamaaGreatZ13
import Derived.Test.YtgndgkjefgjamaaGreatZ14
import Derived.Test.YtgndgkjefgjamaaGreatZ15
import Derived.Test.YtgndgkjefgjamaaGreatZ16
import Derived.Test.YtgndgkjefgjamaaGreatZ17
import Derived.Test.YtgndgkjefgjamaaGreatZ18
import Derived.Test.YtgndgkjefgjamaaGreatZ20
import Derived.Test.YtgndgkjefgjamaaGreatZ22
import Derived.Test.YtgndgkjefgjamaaGreatZ23
import Derived.Test.YtgndgkjefgjamaaGreatZ28
set_option linter.unusedVariables false
set_option linter.unusedSimpArgs false
set_option linter.unusedSectionVars false
set_option linter.unnecessarySimpa false
namespace Go.Proofs.YtgndgkjefgjamaaGreat
open Go.RowKit Go.Shelf
attribute [local go_sem] Oper.semAt_some

set_option maxHeartbeats 8000000 in
set_option maxRecDepth 100000 in
theorem deletes37_any (x : Cls) (A D G : Option Addr) (c d g : Nat) (nm : ByteArray) (num : Int) (w : World) (h : ClAt x A c D d G g (Bl w.heap.size) w) (hnm : nm.size ≤ maxLen) (hI : I64 num) :
    Calls Tryz.prog 5 #[.agg #[.slice A x.1.1.length c, .slice D x.1.2.length d, .slice G x.2.length g], .string nm, .int .i64 num] w (LawRet w) := by
  obtain ⟨t, ht⟩ : ∃ t, w.heap.size = t := ⟨_, rfl⟩
  obtain ⟨W3, hW0⟩ : ∃ W0, w.alloc (.cells #[.slice A x.1.1.length c, .slice D x.1.2.length d, .slice G x.2.length g] 29) = W0 := ⟨_, rfl⟩
  have hB3 : Below w.heap.size w W3 := by rw [← hW0]; repeat (first | exact Below.refl _ _ | refine ext_alloc ?_)
  have hrow0 : W3.heap[t]? = some (.cells #[.slice A x.1.1.length c, .slice D x.1.2.length d, .slice G x.2.length g] 29 (0, 0)) := by rw [← hW0, ← ht]; first | exact heap_alloc_new _ _ | exact (Below.heap_alloc _ _ _ (by simp)).trans (heap_alloc_new _ _)
  have HA : Hid (ClI t x A c D d G g W3) := ⟨hrow0, h.keep (fun q hq => hB3.block q hq) (fun q hq => by have : q < w.heap.size := hq; have := hB3.size; exact ⟨by omega, by omega⟩)⟩
  have HXW : Hid (∀ W, Below w.heap.size w W → W.heap[t]? = some (.cells #[.slice A x.1.1.length c, .slice D x.1.2.length d, .slice G x.2.length g] 29 (0, 0)) → ClI t x A c D d G g W) := fun W hb hr => ⟨hr, h.keep (fun q hq => hb.block q hq) (fun q hq => by have : q < w.heap.size := hq; have := hb.size; exact ⟨by omega, by omega⟩)⟩
  have HG0 : Hid (∀ W, Below w.heap.size w W → SlAt encCln W (fun q => q < w.heap.size ∧ q < W.heap.size) G x.2) := fun W hb => (h.cl.2.2.blk (fun q hq => hb.block q hq)).more (fun q hq => ⟨hq, by have : q < w.heap.size := hq; have := hb.size; omega⟩)
  obtain ⟨q, hq⟩ : ∃ q, fewC x = q := ⟨_, rfl⟩
  have HFW := Lib.hid (riFew HA.out hq)
  have htw : w.heap.size ≤ t ∧ t ≤ w.heap.size := by omega
  have HQ := Lib.hid hq
  clear h hrow0 hq
  obtain ⟨k0, k1, k2, kf⟩ := blk3 HA.out.row
  go_enter Tryz.func5, Tryz.ntmps5
  go_wp2_with fail
  clear hW0 ht
  refine HFW.out.mono ?_
  rintro e w1 ⟨rfl, hb1⟩
  replace HA := Lib.hid (HA.out.below hb1)
  have hB1 := ext_trans hB3 hb1
  clear k0 k1 k2 kf HFW hB3
  have hB3 := hB1
  clear hB1
  cases q with
  | false =>
    go_wp2_with fail
    refine (awake37_any _).mono ?_
    rintro e wz ⟨rfl, hbz⟩
    go_wp2
    go_ret
    exact ⟨rfl, ext_trans hB3 hbz⟩
  | true =>
  by_cases hnl : nm.size ≤ 100
  case neg =>
    have hnl' : (100 : Int) < nm.size := by omega
    clear hnl
    go_wp2_with fail
    refine (awake37_any _).mono ?_
    rintro e wz ⟨rfl, hbz⟩
    go_wp2
    go_ret
    exact ⟨rfl, ext_trans hB3 hbz⟩
  have hnl' : ¬ (100 : Int) < nm.size := by omega
  obtain ⟨x1, hx1⟩ : ∃ y, cDel x nm = y := ⟨_, rfl⟩
  obtain ⟨n1, hn1⟩ : ∃ y, cfE x nm = y := ⟨_, rfl⟩
  obtain ⟨x2, hx2⟩ : ∃ y, dropS x num = y := ⟨_, rfl⟩
  obtain ⟨n2, hn2⟩ : ∃ y, dropE x num = y := ⟨_, rfl⟩
  obtain ⟨r3, hr3⟩ : ∃ y, chgS x nm = y := ⟨_, rfl⟩
  have E1 := Lib.hid (And.intro hx1 hn1); have E2 := Lib.hid (And.intro hx2 hn2); have E3 := Lib.hid hr3; have EN := Lib.hid hn1
  clear hx1 hn1 hx2 hn2 hr3 hnl
  obtain ⟨W3, rfl⟩ : ∃ W : World, W = w1 := ⟨_, rfl⟩
  obtain ⟨k0, k1, k2, kf⟩ := blk3 HA.out.row
  go_wp2_with fail
  refine (ciDelete HA.out HQ.out E1.out).mono ?_
  rintro e w5 ⟨A1, c1, D1, d1, G1, g1, rfl, hat, hb5⟩
  clear k0 k1 k2 kf
  obtain ⟨t1, ht1⟩ : ∃ u, w5.heap.size = u := ⟨_, rfl⟩
  obtain ⟨W6, hW6⟩ : ∃ W6, w5.alloc (.cells #[.slice A1 (x1).1.1.length c1, .slice D1 (x1).1.2.length d1, .slice G1 (x1).2.length g1] 29) = W6 := ⟨_, rfl⟩
  have HV1 : Hid (ClI t1 x1 A1 c1 D1 d1 G1 g1 W6) := by rw [Hid, ← hW6, ← ht1]; exact ClI.mkNew hat (fun q hq => hq.2)
  have hbX : Below W3.heap.size W3 W6 := by rw [← hW6]; exact ext_alloc hb5
  have hB6 := ext_trans hB3 hbX
  have hz1 : W3.heap.size ≤ t1 := by have := hb5.size; omega
  clear hat hb5 hB3 hnl'
  go_upto_region 4 with (fail)
  try rw [hW6]
  try rw [ht1]
  clear hW6 ht1
  have hB3 := hB6
  clear hB6
  have hwt1 : t < t1 := by have := HA.out.lt; omega
  replace HA := Lib.hid (HA.out.below hbX)
  clear hbX
  obtain ⟨W3, rfl⟩ : ∃ W : World, W = W6 := ⟨_, rfl⟩
  obtain ⟨k0, k1, k2, kf⟩ := blk3 HA.out.row
  go_wp2_with fail
  refine (riDelete HA.out HQ.out E1.out).mono ?_
  rintro e w5 ⟨A2, c2, D2, d2, G2, g2, rfl, hat, hb5⟩
  clear k0 k1 k2 kf
  obtain ⟨t2, ht2⟩ : ∃ u, w5.heap.size = u := ⟨_, rfl⟩
  obtain ⟨W6, hW6⟩ : ∃ W6, w5.alloc (.cells #[.slice A2 (x1).1.1.length c2, .slice D2 (x1).1.2.length d2, .slice G2 (x1).2.length g2] 29) = W6 := ⟨_, rfl⟩
  have HV2 : Hid (ClI t2 x1 A2 c2 D2 d2 G2 g2 W6) := by rw [Hid, ← hW6, ← ht2]; exact ClI.mkNew hat (fun q hq => hq.2)
  have hbX : Below W3.heap.size W3 W6 := by rw [← hW6]; exact ext_alloc hb5
  have hB6 := ext_trans hB3 hbX
  have hz2 : W3.heap.size ≤ t2 := by have := hb5.size; omega
  clear hat hb5 hB3 hnm
  go_upto_region 5 with (fail)
  try rw [hW6]
  try rw [ht2]
  clear hW6 ht2
  have hB3 := hB6
  clear hB6
  have ht12 : t1 < t2 := by have := HV1.out.lt; omega
  replace HA := Lib.hid (HA.out.below hbX)
  replace HV1 := Lib.hid (HV1.out.below hbX)
  clear hbX
  obtain ⟨W3, rfl⟩ : ∃ W : World, W = W6 := ⟨_, rfl⟩
  obtain ⟨k0, k1, k2, kf⟩ := blk3 HV1.out.row
  obtain ⟨l0, l1, l2, lf⟩ := blk3 HV2.out.row
  go_wp2_with fail
  refine (riSame HV1.out HV2.out).mono ?_
  rintro e w6 ⟨rfl, hb6⟩
  clear k0 k1 k2 kf l0 l1 l2 lf
  replace HA := Lib.hid (HA.out.below hb6)
  replace HV1 := Lib.hid (HV1.out.below hb6)
  replace HV2 := Lib.hid (HV2.out.below hb6)
  have hB6 := ext_trans hB3 hb6
  clear hb6 hB3
  have hB3 := hB6
  clear hB6
  obtain ⟨W3, rfl⟩ : ∃ W : World, W = w6 := ⟨_, rfl⟩
  obtain ⟨k0, k1, k2, kf⟩ := blk3 HA.out.row
  go_wp2_with fail
  refine (ciDrop HA.out HQ.out E2.out).mono ?_
  rintro e w5 ⟨A5, c5, D5, d5, G5, g5, rfl, hat, hb5⟩
  clear k0 k1 k2 kf
  have hl2 := HV2.out.lt
  have hl1 := HV1.out.lt
  have hsx : ∀ q, Nw W3.heap.size w5.heap.size q → q ≠ t1 ∧ q ≠ t2 ∧ q < w5.heap.size := fun q hq => ⟨by have := hq.1; omega, by have := hq.1; omega, hq.2⟩
  have HR0 := Lib.hid (HA.out.below hb5).row
  have HR2 := Lib.hid (HV2.out.below hb5).row
  have hl52 : t2 < w5.heap.size := by have := hb5.size; omega
  -- the variable T is stored anew behind a call
  have hrow5 := (HV1.out.below hb5).row
  have HV5 : Hid (ClJ t1 t2 x2 A5 c5 D5 d5 G5 g5 (sw3 w5 t1 (.slice A5 (x2).1.1.length c5) (.slice D5 (x2).1.2.length d5) (.slice G5 (x2).2.length g5))) := ClJ.store2 hat hrow5 hsx
  have hk5 : ∀ b, b ≠ t1 → (sw3 w5 t1 (.slice A5 (x2).1.1.length c5) (.slice D5 (x2).1.2.length d5) (.slice G5 (x2).2.length g5)).heap[b]? = w5.heap[b]? := fun b hb => sw3_other hb _ _ _
  have hz5 : (sw3 w5 t1 (.slice A5 (x2).1.1.length c5) (.slice D5 (x2).1.2.length d5) (.slice G5 (x2).2.length g5)).heap.size = w5.heap.size := sw3_sz
  have hB6 : Below w.heap.size w (sw3 w5 t1 (.slice A5 (x2).1.1.length c5) (.slice D5 (x2).1.2.length d5) (.slice G5 (x2).2.length g5)) := sw3_below (ext_trans hB3 hb5) (by omega) _ _ _
  obtain ⟨v0, v1, v2, vf⟩ := blk3 hrow5
  have HK5 := Lib.hid hk5
  have HZ5 := Lib.hid hz5
  clear hat hrow5 hsx hB3 hk5 hz5 hb5 hl1 hl2 HV1 HV2 HA
  go_upto_region 8 with (fail)
  change Code.wp _ _ _ _ (sw3 w5 t1 (.slice A5 (x2).1.1.length c5) (.slice D5 (x2).1.2.length d5) (.slice G5 (x2).2.length g5))
  clear v0 v1 v2 vf
  generalize sw3 w5 t1 (.slice A5 (x2).1.1.length c5) (.slice D5 (x2).1.2.length d5) (.slice G5 (x2).2.length g5) = W6 at HV5 HK5 HZ5 hB6 ⊢
  have hB3 := hB6
  clear hB6
  have hl62 : t2 < W6.heap.size := by have := HZ5.out; omega
  have HA := Lib.hid (HXW.out W6 hB3 ((HK5.out t (by omega)).trans HR0.out))
  have HR6 := Lib.hid ((HK5.out t2 (by omega)).trans HR2.out)
  have HV1 := HV5
  clear HR0 HR2 HK5 HZ5 HV5 hl52
  obtain ⟨W3, rfl⟩ : ∃ W : World, W = W6 := ⟨_, rfl⟩
  obtain ⟨k0, k1, k2, kf⟩ := blk3 HA.out.row
  go_wp2_with fail
  refine (riDrop (S0 := fun q => q < w.heap.size) HA.out (HG0.out _ hB3) HQ.out E2.out).mono ?_
  rintro e w5 ⟨A5, c5, D5, d5, G5, g5, rfl, hat, hb5⟩
  clear k0 k1 k2 kf
  have hsx : ∀ q, ((q < w.heap.size ∨ W3.heap.size ≤ q) ∧ q < w5.heap.size) → q ≠ t2 ∧ q ≠ t1 ∧ q < w5.heap.size := fun q hq => by
    have h1 := HV1.out.cli.lt
    refine ⟨?_, ?_, hq.2⟩
    · rcases hq.1 with h | h <;> omega
    · rcases hq.1 with h | h <;> omega
  have HR0 := Lib.hid (HA.out.below hb5).row
  have HV1b := Lib.hid (HV1.out.below hb5)
  -- the variable T is stored anew behind a call
  have hrow5 := (hb5.block t2 hl62).trans HR6.out
  have HV5 : Hid (ClJ t2 t1 x2 A5 c5 D5 d5 G5 g5 (sw3 w5 t2 (.slice A5 (x2).1.1.length c5) (.slice D5 (x2).1.2.length d5) (.slice G5 (x2).2.length g5))) := ClJ.store2 hat hrow5 hsx
  have hk5 : ∀ b, b ≠ t2 → (sw3 w5 t2 (.slice A5 (x2).1.1.length c5) (.slice D5 (x2).1.2.length d5) (.slice G5 (x2).2.length g5)).heap[b]? = w5.heap[b]? := fun b hb => sw3_other hb _ _ _
  have hz5 : (sw3 w5 t2 (.slice A5 (x2).1.1.length c5) (.slice D5 (x2).1.2.length d5) (.slice G5 (x2).2.length g5)).heap.size = w5.heap.size := sw3_sz
  have hB6 : Below w.heap.size w (sw3 w5 t2 (.slice A5 (x2).1.1.length c5) (.slice D5 (x2).1.2.length d5) (.slice G5 (x2).2.length g5)) := sw3_below (ext_trans hB3 hb5) (by omega) _ _ _
  obtain ⟨v0, v1, v2, vf⟩ := blk3 hrow5
  have HK5 := Lib.hid hk5
  have HZ5 := Lib.hid hz5
  clear hat hrow5 hsx hB3 hk5 hz5 hb5 HV1 HA HR6 hl62
  go_upto_region 9 with (fail)
  change Code.wp _ _ _ _ (sw3 w5 t2 (.slice A5 (x2).1.1.length c5) (.slice D5 (x2).1.2.length d5) (.slice G5 (x2).2.length g5))
  clear v0 v1 v2 vf
  generalize sw3 w5 t2 (.slice A5 (x2).1.1.length c5) (.slice D5 (x2).1.2.length d5) (.slice G5 (x2).2.length g5) = W6 at HV5 HK5 HZ5 hB6 ⊢
  have hB3 := hB6
  clear hB6
  have HA := Lib.hid (HXW.out W6 hB3 ((HK5.out t (by omega)).trans HR0.out))
  have HV1 := Lib.hid (HV1b.out.other (by omega) HK5.out HZ5.out).cli
  have HV2 := Lib.hid HV5.out.cli
  clear HR0 HV1b HK5 HZ5 HV5
  obtain ⟨W3, rfl⟩ : ∃ W : World, W = W6 := ⟨_, rfl⟩
  obtain ⟨k0, k1, k2, kf⟩ := blk3 HA.out.row
  go_wp2_with fail
  refine (ciChanged HA.out HQ.out E3.out EN.out).mono ?_
  rintro e w5 ⟨B3, b3, rfl, i1, i2, i3, hb5⟩
  clear k0 k1 k2 kf
  have HI1 := Lib.hid (show SlAt (encSl encExt) w5 (Bl w5.heap.size) B3 r3 from i3.more (fun q hq => hq.2))
  replace HA := Lib.hid (HA.out.below hb5)
  replace HV1 := Lib.hid (HV1.out.below hb5)
  replace HV2 := Lib.hid (HV2.out.below hb5)
  have hB6 := ext_trans hB3 hb5
  clear i3 hb5 hB3 i2
  go_upto_region 10 with (fail)
  have hB3 := hB6
  clear hB6
  obtain ⟨W3, rfl⟩ : ∃ W : World, W = w5 := ⟨_, rfl⟩
  obtain ⟨k0, k1, k2, kf⟩ := blk3 HA.out.row
  go_wp2_with fail
  refine (riChanged HA.out HQ.out E3.out EN.out).mono ?_
  rintro e w5 ⟨B4, b4, rfl, j1, j2, j3, hb5⟩
  clear k0 k1 k2 kf
  have HI2 := Lib.hid (show SlAt (encSl encExt) w5 (Bl w5.heap.size) B4 r3 from j3.more (fun q hq => hq.2))
  replace HI1 := Lib.hid (HI1.out.fwd hb5)
  replace HV1 := Lib.hid (HV1.out.below hb5)
  replace HV2 := Lib.hid (HV2.out.below hb5)
  have hB6 := ext_trans hB3 hb5
  have hrl : r3.length ≤ 9223372036854775807 := by unfold maxLen at j2; omega
  clear j3 hb5 hB3 j2 HA
  go_upto_region 11 with (fail)
  have hB3 := hB6
  clear hB6
  obtain ⟨W3, rfl⟩ : ∃ W : World, W = w5 := ⟨_, rfl⟩
  go_wp2_with fail
  refine (awake37_any _).mono ?_
  rintro e wz ⟨rfl, hbz⟩
  replace HI1 := Lib.hid (HI1.out.fwd hbz)
  replace HI2 := Lib.hid (HI2.out.fwd hbz)
  replace HV1 := Lib.hid (HV1.out.below hbz)
  replace HV2 := Lib.hid (HV2.out.below hbz)
  obtain ⟨k0, k1, k2, kf⟩ := blk3 HV1.out.row
  obtain ⟨l0, l1, l2, lf⟩ := blk3 HV2.out.row
  go_wp2_with fail
  refine (riSame HV1.out HV2.out).mono ?_
  rintro e w6 ⟨rfl, hb6⟩
  clear k0 k1 k2 kf l0 l1 l2 lf
  go_wp2_with fail
  refine (same37_true B3 B4 b3 b4 r3.length _ _ r3 w6 rfl (HI1.out.fwd hb6) (HI2.out.fwd hb6) hrl).mono ?_
  rintro e w7 ⟨rfl, hd7⟩
  go_wp2_with fail
  go_ret
  exact ⟨rfl, ext_trans hB3 (ext_trans (ext_trans hbz hb6) (hd7.below _))⟩
end Go.Proofs.YtgndgkjefgjamaaGreat
