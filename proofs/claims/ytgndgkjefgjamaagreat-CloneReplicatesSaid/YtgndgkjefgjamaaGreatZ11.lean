/-
  Reference 37: Same, Few; the law's same: the walks.; clone.ownWrites, own: the walks.; Drawn regions whose last operation stores into a cell that the region has read: the loads may be taken first all the same. No program in sight.; clone.sizes, Check: the walks.
-/
import Derived.BigQuiet
import Derived.OrdersHeld
import Derived.RegionTactic
import Derived.Deep.RegionHeld3
import Derived.WalkMore
import Derived.Test.YtgndgkjefgjamaaGreatZ01
import Derived.Test.YtgndgkjefgjamaaGreatZ02
import Derived.Test.YtgndgkjefgjamaaGreatZ03
import Derived.Test.YtgndgkjefgjamaaGreatZ04
import Derived.Test.YtgndgkjefgjamaaGreatZ05
import Derived.Test.YtgndgkjefgjamaaGreatZ06
import Derived.Test.YtgndgkjefgjamaaGreatZ07
import Derived.Test.YtgndgkjefgjamaaGreatZ08
import Derived.Test.YtgndgkjefgjamaaGreatZ09
import Derived.Test.YtgndgkjefgjamaaGreatZ10
set_option linter.unusedVariables false
set_option linter.unusedSimpArgs false
set_option linter.unusedSectionVars false
set_option linter.unnecessarySimpa false
namespace Go.Proofs.YtgndgkjefgjamaaGreat
open Go.RowKit Go.Shelf
attribute [local go_sem] Oper.semAt_some

def fewC (c : Cls) : Bool := (c.2.all fun x => decide (x.1.size ≤ 100) && fewL x.2.2) && (decide (c.2.length ≤ 20) && fewS c.1)
theorem fewS_sav37 {im : Img} {l : List Snp} (h : fewS (im, l) = true) : ∀ x ∈ l, x.2.2.length ≤ 40 := by
  intro x hx
  unfold fewS at h
  rw [Bool.and_eq_true, List.all_eq_true] at h
  have := h.1 x hx
  unfold fewL at this
  rw [Bool.and_eq_true, decide_eq_true_eq] at this
  omega
theorem fewC_lim {im : Img} {l : List Snp} {cl : List Cln} (h : fewC ((im, l), cl) = true) : (ClLim (im, l) cl ∧ l.length ≤ 30 ∧ im.length ≤ 9) ∧ cl.length ≤ 20 ∧ (∀ x ∈ l, x.2.2.length ≤ 40) ∧ ∀ x ∈ cl, x.1.size ≤ 100 := by
  unfold fewC at h
  rw [Bool.and_eq_true, Bool.and_eq_true, decide_eq_true_eq, List.all_eq_true] at h
  obtain ⟨h1, h2, h3⟩ := h
  obtain ⟨h4, h5, h6⟩ := fewS_lim h3
  simp only at h1 h2
  refine ⟨⟨⟨h4, by omega, fun x hx => ?_⟩, h5, h6⟩, h2, fewS_sav37 h3, fun x hx => ?_⟩
  · have := h1 x hx
    rw [Bool.and_eq_true] at this
    have := this.2
    unfold fewL at this
    rw [Bool.and_eq_true, decide_eq_true_eq, List.all_eq_true] at this
    refine ⟨by omega, fun y hy => ?_⟩
    have := this.2 y hy
    simp only [decide_eq_true_eq] at this
    omega
  · have := h1 x hx
    rw [Bool.and_eq_true, decide_eq_true_eq] at this
    exact this.1
set_option maxHeartbeats 2000000 in
set_option maxRecDepth 100000 in
theorem rcFew_any (A A2 A3 : Option Addr) (c c2 c3 n m p : Nat) (im : Img) (l : List Snp) (cl : List Cln) (q : Bool) (w : World) (hn : im.length = n) (hm : l.length = m) (hp : cl.length = p) (hq : fewC ((im, l), cl) = q) (h1 : SlAt (encSl encSec) w (Bl w.heap.size) A im) (h2 : SlAt encSnp w (Bl w.heap.size) A2 l) (h3 : SlAt encCln w (Bl w.heap.size) A3 cl) (hl1 : n ≤ 9223372036854775807) (hl2 : m ≤ 9223372036854775807) (hl3 : p ≤ 9223372036854775807) :
    Calls Tryz.prog 10 #[.agg #[.slice A n c, .slice A2 m c2, .slice A3 p c3]] w fun e w' => e = .returned (.bool q) ∧ Below w.heap.size w w' := by
  subst hn hm hp
  have H1 : Hid (∀ w', Below w.heap.size w w' → SlAt (encSl encSec) w' (Bl w.heap.size) A im) := fun w' hb => h1.below hb
  have H2 : Hid (∀ w', Below w.heap.size w w' → SlAt encSnp w' (Bl w.heap.size) A2 l) := fun w' hb => h2.below hb
  have H3 : Hid (∀ w', Below w.heap.size w w' → SlAt encCln w' (Bl w.heap.size) A3 cl) := fun w' hb => h3.below hb
  have HQ := Lib.hid hq
  clear h1 h2 h3 hq
  obtain ⟨W0, hW0⟩ : ∃ W0, w.alloc (.cells #[.slice A im.length c, .slice A2 l.length c2, .slice A3 cl.length c3] 29) = W0 := ⟨_, rfl⟩
  have hB0 : Below w.heap.size w W0 := by rw [← hW0]; exact ext_alloc (Below.refl _ _)
  have hr0 : W0.heap[w.heap.size]? = some (.cells #[.slice A im.length c, .slice A2 l.length c2, .slice A3 cl.length c3] 29 (0, 0)) := by rw [← hW0]; exact heap_alloc_new _ _
  have hs0 : w.heap.size < W0.heap.size := (Array.getElem?_eq_some_iff.1 hr0).1
  obtain ⟨c0, c1, c2', _⟩ := blk3 hr0
  have h3' := H3.out W0 hB0
  have H1' := Lib.hid ((H1.out W0 hB0).more (S' := Bl W0.heap.size) (fun g hg => by have : g < w.heap.size := hg; show g < W0.heap.size; omega))
  have H2' := Lib.hid ((H2.out W0 hB0).more (S' := Bl W0.heap.size) (fun g hg => by have : g < w.heap.size := hg; show g < W0.heap.size; omega))
  clear hr0
  have HW0 := Lib.hid hW0
  clear hW0
  go_enter Tryz.func10, Tryz.ntmps10
  go_wp2
  rw [HW0.out]
  go_loopw [3] (fun i wr => wr = W0 ∧ ∃ k : Nat, k ≤ cl.length ∧ k ≤ 20 ∧ i = .int .i64 k ∧ Hid (∀ x ∈ cl.take k, (decide (x.1.size ≤ 100) && fewL x.2.2) = true)) (fun i _ => 20 - (intOf i).toNat)
  case atStart => exact ⟨rfl, 0, by omega, by omega, rfl, by simp [Hid]⟩
  case round =>
    obtain ⟨rfl, k, hk, hk2, rfl, hp⟩ := hrel
    have HP := Lib.hid hp.out; clear hp
    by_cases hlt : k < cl.length
    · have hki : (k : Int) < cl.length := by omega
      by_cases hlt2 : k < 20
      · obtain ⟨b, off, D, dc, rfl, hb, g0, g1, g2, hD, hn1, hn2, hn3, _⟩ := h3'.cln hlt
        have hnn : (0 : Int) ≤ k := by omega
        have hki2 : (k : Int) < 20 := by omega
        obtain ⟨xv, hxv⟩ : ∃ x, cl[k]'hlt = x := ⟨_, rfl⟩
        have HXV : Hid (cl[k]'hlt = xv) := hxv
        rw [hxv] at g0 g1 g2 hD hn1 hn3
        obtain ⟨xn, xnum, xs⟩ := xv
        simp only at g0 g1 g2 hD hn1 hn3
        clear hxv
        by_cases hz : xn.size ≤ 100
        · have hzi : ¬ (100 : Int) < xn.size := by omega
          obtain ⟨p, hpp⟩ : ∃ p, Hid (fewL xs = p) := ⟨_, Lib.hid rfl⟩
          have HFW := Lib.hid (few_any D dc _ xs wr hD (by unfold maxLen at hn2; omega))
          rw [hpp.out] at HFW
          have HXX : Hid ((decide ((cl[k]'hlt).1.size ≤ 100) && fewL (cl[k]'hlt).2.2) = p) := by
            rw [Hid, HXV.out]
            show (decide (xn.size ≤ 100) && fewL xs) = p
            rw [decide_eq_true hz, hpp.out]; rfl
          clear hD hz
          go_wp2_with fail
          refine HFW.out.mono ?_
          rintro e w3 ⟨rfl, rfl⟩
          clear HFW
          cases p with
          | true =>
            go_wp2_with fail
            go_roundw
            case rel =>
              refine ⟨by trivial, k + 1, hlt, hlt2, by go_num, ?_⟩
              intro x hx
              rw [List.take_succ_eq_append_getElem hlt] at hx
              rcases List.mem_append.1 hx with hx | hx
              · exact HP.out x hx
              · rw [List.mem_singleton.1 hx]; exact HXX.out
            case measure => simp [intOf]; omega
          | false =>
            go_wp2_with fail
            go_ret
            refine ⟨ret_bool ?_, hB0⟩
            rw [← HQ.out, eq_comm, fewC, Bool.and_eq_false_iff]
            left
            rw [List.all_eq_false]
            exact ⟨cl[k], List.getElem_mem hlt, by rw [HXX.out]; decide⟩
        · have hzi : (100 : Int) < xn.size := by omega
          have HXX : Hid ((decide ((cl[k]'hlt).1.size ≤ 100) && fewL (cl[k]'hlt).2.2) = false) := by
            rw [Hid, HXV.out]
            show (decide (xn.size ≤ 100) && fewL xs) = false
            rw [decide_eq_false hz]; rfl
          clear hD hz
          go_wp2_with fail
          go_ret
          refine ⟨ret_bool ?_, hB0⟩
          rw [← HQ.out, eq_comm, fewC, Bool.and_eq_false_iff]
          left
          rw [List.all_eq_false]
          exact ⟨cl[k], List.getElem_mem hlt, by rw [HXX.out]; decide⟩
      · have hki2 : ¬ ((k : Int) < 20) := by omega
        have hL : ¬ ((cl.length : Int) ≤ 20) := by omega
        go_wp2_with fail
        go_ret
        refine ⟨ret_bool ?_, hB0⟩
        rw [← HQ.out, eq_comm, fewC, Bool.and_eq_false_iff]
        right
        rw [Bool.and_eq_false_iff]
        left
        simp only [decide_eq_false_iff_not]
        omega
    · have hkk : k = cl.length := by omega
      subst hkk
      have hall : Hid ((cl.all fun x => decide (x.1.size ≤ 100) && fewL x.2.2) = true) := by
        have h := HP.out
        rw [List.take_length] at h
        exact List.all_eq_true.2 h
      obtain ⟨q2, hq2⟩ : ∃ q2, fewS (im, l) = q2 := ⟨_, rfl⟩
      have hFI := Lib.hid (snFew_any A A2 c c2 im.length l.length im l q2 wr rfl rfl hq2 H1'.out H2'.out hl1 hl2)
      by_cases h30 : cl.length ≤ 20
      · have h30' : (cl.length : Int) ≤ 20 := by omega
        have hqq : Hid (q2 = q) := by
          rw [Hid, ← HQ.out, fewC]
          simp only
          rw [hall.out, decide_eq_true h30, hq2]; rfl
        rw [hqq.out] at hFI
        clear h30 hq2
        go_wp2_with fail
        refine hFI.out.mono ?_
        rintro e w3 ⟨rfl, hb3⟩
        go_wp2_with fail
        go_ret
        exact ⟨rfl, ext_trans hB0 hb3⟩
      · exact absurd hk2 h30
set_option maxHeartbeats 4000000 in
set_option maxRecDepth 100000 in
/-- equal clones are found to be the same -/
theorem rcSame_true (A A2 A3 A' A2' A3' : Option Addr) (c c2 c3 c' c2' c3' n m p : Nat) (im : Img) (l : List Snp) (cl : List Cln) (w : World) (hn : im.length = n) (hm : l.length = m) (hp : cl.length = p) (h1 : SlAt (encSl encSec) w (Bl w.heap.size) A im) (h2 : SlAt encSnp w (Bl w.heap.size) A2 l) (h3 : SlAt encCln w (Bl w.heap.size) A3 cl) (h1' : SlAt (encSl encSec) w (Bl w.heap.size) A' im) (h2' : SlAt encSnp w (Bl w.heap.size) A2' l) (h3' : SlAt encCln w (Bl w.heap.size) A3' cl) (hl1 : n ≤ 9223372036854775807) (hl2 : m ≤ 9223372036854775807) (hl3 : p ≤ 9223372036854775807) :
    Calls Tryz.prog 16 #[.agg #[.slice A n c, .slice A2 m c2, .slice A3 p c3], .agg #[.slice A' n c', .slice A2' m c2', .slice A3' p c3']] w fun e w' => e = .returned (.bool true) ∧ Below w.heap.size w w' := by
  subst hn hm hp
  obtain ⟨n0, hn0⟩ : ∃ n0, w.heap.size = n0 := ⟨_, rfl⟩
  rw [hn0] at h1 h2 h3 h1' h2' h3' ⊢
  have H1 : Hid (∀ w', Below n0 w w' → SlAt (encSl encSec) w' (Bl n0) A im ∧ SlAt (encSl encSec) w' (Bl n0) A' im ∧ SlAt encSnp w' (Bl n0) A2 l ∧ SlAt encSnp w' (Bl n0) A2' l) := fun w' hb => ⟨h1.below hb, h1'.below hb, h2.below hb, h2'.below hb⟩
  have H3 : Hid (∀ w', Below n0 w w' → SlAt encCln w' (Bl n0) A3 cl) := fun w' hb => h3.below hb
  have H3' : Hid (∀ w', Below n0 w w' → SlAt encCln w' (Bl n0) A3' cl) := fun w' hb => h3'.below hb
  obtain ⟨W0, hW0⟩ : ∃ W0, (w.alloc (.cells #[.slice A im.length c, .slice A2 l.length c2, .slice A3 cl.length c3] 29)).alloc (.cells #[.slice A' im.length c', .slice A2' l.length c2', .slice A3' cl.length c3'] 29) = W0 := ⟨_, rfl⟩
  have hB0 : Below n0 w W0 := by rw [← hW0, ← hn0]; exact ext_alloc (ext_alloc (Below.refl _ _))
  have hs0 : W0.heap.size = n0 + 2 := by rw [← hW0, ← hn0]; simp
  have hr0 : W0.heap[n0]? = some (.cells #[.slice A im.length c, .slice A2 l.length c2, .slice A3 cl.length c3] 29 (0, 0)) := by
    rw [← hW0, ← hn0]; exact (Below.heap_alloc _ _ _ (by simp)).trans (heap_alloc_new _ _)
  have hr1 : W0.heap[n0 + 1]? = some (.cells #[.slice A' im.length c', .slice A2' l.length c2', .slice A3' cl.length c3'] 29 (0, 0)) := by
    rw [← hW0, ← hn0]; exact heap_new2 _ _ _
  have hup : ∀ {α : Type} {E : Enc α} {A : Option Addr} {l : List α}, SlAt E W0 (Bl n0) A l → SlAt E W0 (Bl W0.heap.size) A l := fun h => h.more (fun g hg => by have : g < n0 := hg; show g < W0.heap.size; omega)
  have HSI := Lib.hid (snSame_true A A2 A' A2' c c2 c' c2' im.length l.length im l W0 rfl rfl (hup (H1.out W0 hB0).1) (hup (H1.out W0 hB0).2.2.1) (hup (H1.out W0 hB0).2.1) (hup (H1.out W0 hB0).2.2.2) (by omega) (by omega))
  have HCC : Hid (∀ W, Below W0.heap.size W0 W → (W.cell? ⟨n0, 0, none⟩ = some (.slice A im.length c) ∧ W.cell? ⟨n0, 1, none⟩ = some (.slice A2 l.length c2) ∧ W.cell? ⟨n0, 2, none⟩ = some (.slice A3 cl.length c3)) ∧ W.cell? ⟨n0 + 1, 0, none⟩ = some (.slice A' im.length c') ∧ W.cell? ⟨n0 + 1, 1, none⟩ = some (.slice A2' l.length c2') ∧ W.cell? ⟨n0 + 1, 2, none⟩ = some (.slice A3' cl.length c3')) := fun W hb => by
    obtain ⟨a, b, d, _⟩ := blk3 ((hb.block n0 (by omega)).trans hr0)
    obtain ⟨a', b', d', _⟩ := blk3 ((hb.block (n0 + 1) (by omega)).trans hr1)
    exact ⟨⟨a, b, d⟩, a', b', d'⟩
  clear h1 h2 h3 h1' h2' h3' hr0 hr1 hup
  have HW0 := Lib.hid hW0
  have HS0 := Lib.hid hs0
  have hs1 : n0 + 1 < W0.heap.size := by omega
  clear hW0 hs0
  obtain ⟨⟨c0, c1, c4⟩, d0, d1, d2⟩ := HCC.out W0 (Below.refl _ _)
  go_enter Tryz.func16, Tryz.ntmps16
  go_upto_region 1 with (fail)
  try rw [HW0.out]
  go_wp2_with fail
  refine HSI.out.mono ?_
  rintro e w1 ⟨rfl, hb1⟩
  clear c0 c1 c4 d0 d1 d2 HSI
  obtain ⟨⟨c0, c1, c4⟩, d0, d1, d2⟩ := HCC.out w1 hb1
  go_wp2_with fail
  clear c0 c1 c4 d0 d1 d2
  go_loopw [5] (fun i wr => ∃ k : Nat, k ≤ cl.length ∧ i = .int .i64 k ∧ Below W0.heap.size W0 wr) (fun i _ => cl.length - (intOf i).toNat)
  case atStart => exact ⟨0, by omega, rfl, hb1⟩
  case round =>
    obtain ⟨k, hk, rfl, hB⟩ := hrel
    obtain ⟨⟨c0, c1, c4⟩, d0, d1, d2⟩ := HCC.out wr hB
    have hbw : Below n0 w wr := hB0.trans (hB.mono (by omega))
    by_cases hlt : k < cl.length
    · obtain ⟨b, off, D, dc, rfl, hb, g0, g1, g2, hD, hd1, hd2, hi1, hi2⟩ := (H3.out wr hbw).cln hlt
      obtain ⟨b', off', D', dc', rfl, hb', g0', g1', g2', hD', hd1', hd2', _, _⟩ := (H3'.out wr hbw).cln hlt
      have hki : (k : Int) < cl.length := by omega
      have hnn : (0 : Int) ≤ k := by omega
      have hszr := hB.size
      have hbl : b < wr.heap.size := by have : b < n0 := hb; omega
      have hbl' : b' < wr.heap.size := by have : b' < n0 := hb'; omega
      have hnl : n0 < wr.heap.size := by omega
      have hnl1 : n0 + 1 < wr.heap.size := by omega
      obtain ⟨x, hx⟩ : ∃ x, cl[k] = x := ⟨_, rfl⟩
      rw [hx] at g0 g1 g2 hD hd1 hi1 hi2 g0' g1' g2' hD' hd1'
      obtain ⟨xn, xnum, sv⟩ := x
      simp only at g0 g1 g2 hD hd1 hi1 hi2 g0' g1' g2' hD' hd1'
      have HSM : Hid (∀ W, Below wr.heap.size wr W → Calls Tryz.prog 56 #[.slice D sv.length dc, .slice D' sv.length dc'] W fun e w' => e = .returned (.bool true) ∧ Below W.heap.size W w') := fun W hbW => by
        have hk : ∀ g, Bl n0 g → W.heap[g]? = wr.heap[g]? := fun g hg => hbW.block g (by have : g < n0 := hg; omega)
        exact same_any D D' dc dc' _ _ sv sv W (hD.blk hk) (hD'.blk hk) (by unfold maxLen at hd2; omega) (by unfold maxLen at hd2; omega) true (beq_self_eq_true _)
      have HCX : Hid (∀ W, Below wr.heap.size wr W → (W.cell? ⟨n0, 2, none⟩ = some (.slice (some ⟨b, off, none⟩) cl.length c3) ∧ W.cell? ⟨n0 + 1, 2, none⟩ = some (.slice (some ⟨b', off', none⟩) cl.length c3')) ∧ (W.cell? ⟨b, off + k * 3, none⟩ = some (.string xn) ∧ W.cell? ⟨b, off + k * 3 + 1, none⟩ = some (.int .i64 xnum) ∧ W.cell? ⟨b, off + k * 3 + 2, none⟩ = some (.slice D sv.length dc)) ∧ W.cell? ⟨b', off' + k * 3, none⟩ = some (.string xn) ∧ W.cell? ⟨b', off' + k * 3 + 1, none⟩ = some (.int .i64 xnum) ∧ W.cell? ⟨b', off' + k * 3 + 2, none⟩ = some (.slice D' sv.length dc')) := fun W hb => by
        obtain ⟨⟨_, _, u⟩, _, _, v⟩ := HCC.out W (hB.trans (hb.mono (by omega)))
        exact ⟨⟨u, v⟩, ⟨(hb.cell (p := ⟨b, off + k * 3, none⟩) hbl).trans g0, (hb.cell (p := ⟨b, off + k * 3 + 1, none⟩) hbl).trans g1, (hb.cell (p := ⟨b, off + k * 3 + 2, none⟩) hbl).trans g2⟩, (hb.cell (p := ⟨b', off' + k * 3, none⟩) hbl').trans g0', (hb.cell (p := ⟨b', off' + k * 3 + 1, none⟩) hbl').trans g1', (hb.cell (p := ⟨b', off' + k * 3 + 2, none⟩) hbl').trans g2'⟩
      have hdr : Below wr.heap.size wr wr.drew := (Below.refl _ _).drew
      have hc0 := HCX.out _ hdr
      clear hx hD hD'
      go_upto_region 6 with (fail)
      clear c0 c1 c4 d0 d1 d2 g0 g1 g2 g0' g1' g2'
      go_region_held3 (fun W => (W.cell? ⟨n0, 2, none⟩ = some (.slice (some ⟨b, off, none⟩) cl.length c3) ∧ W.cell? ⟨n0 + 1, 2, none⟩ = some (.slice (some ⟨b', off', none⟩) cl.length c3')) ∧ (W.cell? ⟨b, off + k * 3, none⟩ = some (.string xn) ∧ W.cell? ⟨b, off + k * 3 + 1, none⟩ = some (.int .i64 xnum) ∧ W.cell? ⟨b, off + k * 3 + 2, none⟩ = some (.slice D sv.length dc)) ∧ W.cell? ⟨b', off' + k * 3, none⟩ = some (.string xn) ∧ W.cell? ⟨b', off' + k * 3 + 1, none⟩ = some (.int .i64 xnum) ∧ W.cell? ⟨b', off' + k * 3 + 2, none⟩ = some (.slice D' sv.length dc')) (first | exact hc0 | exact HCX.out _ hx9 | go_keep) (first | (go_at_call 56; refine (HSM.out _ hdr).mono ?_; rintro e w9 ⟨rfl, hb9⟩; have hx9 : Below wr.heap.size wr w9 := ext_trans hdr hb9))
      go_wp2_with fail
      go_roundw
      case rel => exact ⟨k + 1, hlt, by go_num, hB.trans (hx9.mono (by omega))⟩
      case measure => simp [intOf]; omega
    · have hkk : k = cl.length := by omega
      subst hkk
      go_wp2_with fail
      go_ret
      exact ⟨rfl, hbw⟩
end Go.Proofs.YtgndgkjefgjamaaGreat
namespace Go.Proofs.YtgndgkjefgjamaaGreat
open Go.RowKit Go.Shelf
attribute [local go_sem] Oper.semAt_some

set_option maxHeartbeats 1000000 in
theorem clWrites_any (A : Option Addr) (c n : Nat) (l : List Wr) (w : World) (hn : l.length = n) (h1 : SlAt encWr w (Bl w.heap.size) A l) (hl : n ≤ 100000) (hd : ∀ x ∈ l, x.2.2.length ≤ 1000000) :
    Calls Tryz.prog 64 #[.slice A n c] w fun e w' => ∃ B vc, e = .returned (.slice B n vc) ∧ OwnX (fun _ => False) encWr w' w.heap.size 45 (.slice B n vc) l ∧ Below w.heap.size w w' := by
  subst hn
  have H1 : Hid (∀ w', Below w.heap.size w w' → SlAt encWr w' (Bl w.heap.size) A l) := fun w' hb => h1.below hb
  have HD := Lib.hid hd
  clear h1 hd
  go_enter Tryz.func64, Tryz.ntmps64
  go_wp2
  go_loopw [3, 8] (fun v i wr => ∃ (k : Nat) (B : Option Addr) (vc : Nat) (out : List Wr), k ≤ l.length ∧ i = .int .i64 k ∧ v = .slice B out.length vc ∧ Below w.heap.size w wr ∧ Hid (out = l.take k) ∧ Hid (OwnX (fun _ => False) encWr wr w.heap.size 45 (.slice B out.length vc) out)) (fun _ i _ => l.length - (intOf i).toNat)
  case atStart => exact ⟨0, none, 0, [], by omega, rfl, rfl, Below.refl _ _, by simp [Hid], OwnX.nil_⟩
  case round =>
    obtain ⟨wo, rfl⟩ : ∃ wo : World, wo = wr := ⟨_, rfl⟩
    obtain ⟨k, B, vc, out, hk, rfl, rfl, hB, hout, hown⟩ := hrel
    by_cases hlt : k < l.length
    · obtain ⟨b, off, D, dc, rfl, hb, g0, g1, g2, hD, hn1, hn2, hi1, hi2⟩ := (H1.out wo hB).wr hlt
      have hdl := HD.out l[k] (List.getElem_mem hlt)
      have hst : Hid (l.take (k + 1) = l.take k ++ [l[k]]) := List.take_succ_eq_append_getElem hlt
      obtain ⟨x, hx⟩ : ∃ x, l[k] = x := ⟨_, rfl⟩
      rw [hx] at g0 g1 g2 hD hn1 hi1 hi2 hdl hst
      obtain ⟨v, s, d⟩ := x
      simp only at g0 g1 g2 hD hn1 hi1 hi2 hdl
      have hki : (k : Int) < l.length := by omega
      have hnn : (0 : Int) ≤ k := by omega
      have hol : out.length ≤ k := by rw [hout.out]; simp; omega
      have hszo := hB.size
      clear hx
      go_upto_region 5 with (fail)
      obtain ⟨W1, hW1⟩ : ∃ W1, wo.alloc (.cells #[.int .i64 v, .int .i64 s, .slice D d.length dc] 45) = W1 := ⟨_, rfl⟩
      rw [hW1]
      have hb1 : Below wo.heap.size wo W1 := by rw [← hW1]; exact ext_alloc (Below.refl _ _)
      have hr1 : W1.heap[wo.heap.size]? = some (.cells #[.int .i64 v, .int .i64 s, .slice D d.length dc] 45 (0, 0)) := by rw [← hW1]; exact heap_alloc_new _ _
      have hs1 : W1.heap.size = wo.heap.size + 1 := by rw [← hW1]; simp
      have HCL := Lib.hid (cloneSecs_any D dc d.length d W1 rfl ((hD.blk (w' := W1) (fun g hg => hb1.block g (Nat.lt_of_lt_of_le hg hszo))).more (fun g hg => by have : g < w.heap.size := hg; show g < W1.heap.size; omega)) hdl)
      obtain ⟨r0, r1, r2, rf⟩ := blk3 hr1
      clear hW1 g0 g1 g2 hD
      go_wp2_with fail
      refine HCL.out.mono ?_
      rintro e w2 ⟨A2, c2, rfl, k1, k2, k3, hb2⟩
      have hr2 : w2.heap[wo.heap.size]? = some (.cells #[.int .i64 v, .int .i64 s, .slice D d.length dc] 45 (0, 0)) := (hb2.block _ (by omega)).trans hr1
      have HK3 := Lib.hid k3
      clear r0 r1 r2 rf hr1 HCL k3
      obtain ⟨r0, r1, r2, rf⟩ := blk3 hr2
      go_upto_region 6 with (fail)
      obtain ⟨W3, hW3⟩ : ∃ W3, w2.setCell ⟨wo.heap.size, 2, none⟩ (.slice A2 d.length c2) = W3 := ⟨_, rfl⟩
      rw [hW3]
      have hr3 : W3.heap[wo.heap.size]? = some (.cells #[.int .i64 v, .int .i64 s, .slice A2 d.length c2] 45 (0, 0)) := by rw [← hW3]; exact blk3_set hr2 _
      have hs3 : W3.heap.size = w2.heap.size := by rw [← hW3]; simp [World.setCell]
      have hs2 := hb2.size
      have hb3 : Below wo.heap.size wo W3 := by rw [← hW3]; exact (hb1.trans (hb2.mono hb1.size)).setCell (p := ⟨wo.heap.size, 2, none⟩) (Nat.le_refl wo.heap.size) _
      have hK3 : Hid (SlAt encSec W3 (Nw W1.heap.size W3.heap.size) A2 d) := by
        rw [hs3]
        refine HK3.out.blk (fun g hg => ?_)
        rw [← hW3]
        exact Below.heap_setCell _ _ _ _ (by have := hg.1; show g ≠ wo.heap.size; omega)
      have hs3g : w2.heap.size ≤ W3.heap.size := by omega
      have hs1g : wo.heap.size + 1 ≤ W1.heap.size := by omega
      clear r0 r1 r2 rf hr2 hW3 HK3 hb2 hb1 hs3 hs1
      obtain ⟨r0, r1, r2, _⟩ := blk3 hr3
      have hO4 := Lib.hid ((hown.out.below hb3).alloc (.cells #[.int .i64 v, .int .i64 s, .slice A2 d.length c2] 45))
      have hlt1 := hown.out.lt
      have HRD : Hid (encWr.rd (W3.alloc (.cells #[.int .i64 v, .int .i64 s, .slice A2 d.length c2] 45)) (fun g => Nw w.heap.size (W3.alloc (.cells #[.int .i64 v, .int .i64 s, .slice A2 d.length c2] 45)).heap.size g ∧ ¬ False ∧ (Value.slice B out.length vc).ownBlock ≠ some g) [.int .i64 v, .int .i64 s, .slice A2 d.length c2] (v, s, d)) :=
        wr_mk (x := (v, s, d)) hi1 hi2 k1 k2 (OwnX.since (X := fun _ => False) (B := W1.heap.size) ((hK3.out.blk (fun g hg => Below.heap_alloc _ _ _ hg.2)).more (fun g hg => hg.mono (Nat.le_refl _) (by simp))) (by omega) (fun _ h => h.elim) (fun g hg => by have := (hlt1 g hg).2; omega))
      have HLT := Lib.hid hlt1
      have hO4o := Lib.hid hO4.out.1
      clear hlt1
      go_wp2_with (at_builtin; refine Hid.out ?_)
      change wpList _ _ _ _ _ _
      refine wpList_app1 (E := encWr) tyWrs rfl _ _ rfl rfl hO4o.out (v, s, d) [.int .i64 v, .int .i64 s, .slice A2 d.length c2] rfl HRD.out (heap_alloc_new _ _) (fun _ h => h.1.2) (by simp; omega) (by unfold maxLen; omega) (by omega) ?_
      intro A5 c5 w5 hown5 hg5 hat5
      have hO5 := Lib.hid (hO4.out.app hown5 hg5 hat5 (fun _ h => h.elim))
      have hB5 := Lib.hid (((hB.trans (hb3.mono hszo)).alloc (by omega) (.cells #[.int .i64 v, .int .i64 s, .slice A2 d.length c2] 45)).grown hg5 (by simp; omega) (fun g h => (HLT.out g h).1))
      clear hown5 hg5 hat5 r0 r1 r2 hr3
      go_wp2
      go_roundw
      case rel => exact ⟨k + 1, A5, c5, out ++ [(v, s, d)], hlt, by go_num, by simp, hB5.out, by rw [Hid, hst.out, hout.out], by have := hO5.out; simpa [Hid] using this⟩
      case measure => simp [intOf]; omega
    · have hkk : k = l.length := by omega
      subst hkk
      go_wp2
      go_ret
      have e := hout.out
      rw [List.take_length] at e
      rw [← e]
      exact ⟨B, vc, rfl, hown.out, hB⟩
/-- writes that are owned, all of their memory in an interval of blocks -/
def OwnIn (w : World) (a b : Nat) (v : Value) (l : List Wr) : Prop := Own encWr w a 45 (fun g => Nw a b g ∧ v.ownBlock ≠ some g) v l ∧ ∀ g, v.ownBlock = some g → g < b
theorem OwnIn.keep {w w' : World} {a b : Nat} {v : Value} {l : List Wr} (h : OwnIn w a b v l) (hk : ∀ g, Nw a b g → w'.heap[g]? = w.heap[g]?) : OwnIn w' a b v l :=
  ⟨h.1.blk (fun g hg => by
    rcases hg with hg | hg
    · exact hk g hg.1
    · exact hk g ⟨(h.1.lt g hg).1, h.2 g hg⟩), h.2⟩
theorem OwnIn.sl {w : World} {a b n d : Nat} {D : Option Addr} {l : List Wr} (h : OwnIn w a b (.slice D n d) l) : n = l.length ∧ l.length ≤ d ∧ d ≤ maxLen ∧ SlAt encWr w (Nw a b) D l := by
  obtain ⟨A', c', he, h1, h2, h3⟩ := h.1.reads (S' := Nw a b) (fun g hg => hg.1) (fun g hg => ⟨(h.1.lt g hg).1, h.2 g hg⟩)
  simp only [List.cons.injEq, Value.slice.injEq, and_true] at he
  obtain ⟨rfl, rfl, rfl⟩ := he
  exact ⟨rfl, h1, h2, h3⟩
/-- a clone with the place of its overlay: the slice's address and capacity, and the blocks that it lies in -/
abbrev CB := Cln × Option Addr × Nat × Nat × Nat
def encCB : Enc CB where
  size := 3
  rd _ _ cs y := cs = [.string y.1.1, .int .i64 y.1.2.1, .slice y.2.1 y.1.2.2.length y.2.2.1] ∧ y.1.1.size ≤ maxLen ∧ I64 y.1.2.1
  len h := by rw [h.1]; rfl
  one h := by rw [h.1]; simp [Value.oneCell']
  keep h _ _ := h
theorem tyCBs : SliceTy Tryz.prog 27 87 encCB.size 48 := tyClns
/-- clones whose overlays are owned, each in blocks of its own -/
structure ClsOwn (w : World) (lo : Nat) (G : Option Addr) (g : Nat) (ys : List CB) : Prop where
  own : Own encCB w lo 87 (fun _ => False) (.slice G ys.length g) ys
  ov : ∀ y ∈ ys, lo ≤ y.2.2.2.1 ∧ y.2.2.2.2 ≤ w.heap.size ∧ OwnIn w y.2.2.2.1 y.2.2.2.2 (.slice y.2.1 y.1.2.2.length y.2.2.1) y.1.2.2 ∧ ∀ b, (Value.slice G ys.length g).ownBlock = some b → ¬ Nw y.2.2.2.1 y.2.2.2.2 b
  dj : ys.Pairwise (fun x y => x.2.2.2.2 ≤ y.2.2.2.1)
theorem ClsOwn.keep {w w' : World} {lo g : Nat} {G : Option Addr} {ys : List CB} (h : ClsOwn w lo G g ys) (hs : w.heap.size ≤ w'.heap.size) (hk : ∀ b, lo ≤ b → b < w.heap.size → w'.heap[b]? = w.heap[b]?) : ClsOwn w' lo G g ys :=
  ⟨h.own.blk (fun b hb => by
    rcases hb with hb | hb
    · exact hb.elim
    · exact hk b (h.own.lt b hb).1 (h.own.lt b hb).2),
   fun y hy => by
    obtain ⟨a, b, c, d⟩ := h.ov y hy
    exact ⟨a, by omega, c.keep (fun x hx => hk x (by have := hx.1; omega) (by have := hx.2; omega)), d⟩, h.dj⟩
theorem All2.mapR {α β γ : Type} {R : α → β → Prop} {R' : α → γ → Prop} {f : β → γ} : ∀ {l : List α} {m : List β}, All2 R l m → (∀ a b, b ∈ m → R a b → R' a (f b)) → All2 R' l (m.map f)
  | [], [], _, _ => trivial
  | _ :: _, b :: m, h, hr => ⟨hr _ b (by simp) h.1, All2.mapR h.2 (fun a c hc => hr a c (by simp [hc]))⟩
  | [], _ :: _, h, _ => h.elim
  | _ :: _, [], h, _ => h.elim
theorem ClsOwn.ownX {w : World} {lo g : Nat} {G : Option Addr} {ys : List CB} {l : List Cln} (h : ClsOwn w lo G g ys) (hm : ys.map (·.1) = l) : OwnX (fun _ => False) encCln w lo 87 (.slice G l.length g) l := by
  subst hm
  obtain ⟨css, hrow, hall, _⟩ := h.own
  rw [List.length_map]
  refine ⟨⟨css, by rw [List.length_map]; exact hrow, All2.mapR hall (fun cs y hy hr => ?_), fun b hb hS => hS.2.2 hb⟩, fun b _ hf => hf⟩
  obtain ⟨a, b, c, d⟩ := h.ov y hy
  obtain ⟨_, c1, c2, c3⟩ := c.sl
  obtain ⟨rfl, r1, r2⟩ := hr
  exact cln_mk r1 r2 c1 c2 (c3.more (fun x hx => ⟨⟨by have := hx.1; omega, by have := hx.2; omega⟩, fun hf => hf, fun e => d x e hx⟩))
/-- clones that a call has made: the image's memory, behind it the snapshots', and behind it the clones' -/
structure ClRet (s : Sns) (l : List Cln) (A : Option Addr) (c : Nat) (D : Option Addr) (d : Nat) (G : Option Addr) (g m1 m2 lo : Nat) (w : World) : Prop where
  im : s.1.length ≤ c ∧ c ≤ maxLen ∧ SlAt (encSl encSec) w (Nw lo m1) A s.1
  sn : s.2.length ≤ d ∧ d ≤ maxLen ∧ SlAt encSnp w (Nw m1 m2) D s.2
  le : lo ≤ m1 ∧ m1 ≤ m2 ∧ m2 ≤ w.heap.size
  cl : OwnX (fun _ => False) encCln w m2 87 (.slice G l.length g) l
  ow : ∃ ys, ys.map (·.1) = l ∧ ClsOwn w m2 G g ys
set_option maxHeartbeats 4000000 in
set_option maxRecDepth 100000 in
theorem own37_any (A A2 A3 : Option Addr) (c c2 c3 n m p : Nat) (im : Img) (l : List Snp) (cl : List Cln) (w : World) (hn : im.length = n) (hm : l.length = m) (hp : cl.length = p) (h1 : SlAt (encSl encSec) w (Bl w.heap.size) A im) (h2 : SlAt encSnp w (Bl w.heap.size) A2 l) (h3 : SlAt encCln w (Bl w.heap.size) A3 cl) (hL : ClLim (im, l) cl) :
    Calls Tryz.prog 50 #[.agg #[.slice A n c, .slice A2 m c2, .slice A3 p c3]] w fun e w' => ∃ B vc D dc G gc m1 m2, e = .returned (.agg #[.slice B n vc, .slice D m dc, .slice G p gc]) ∧ ClRet (im, l) cl B vc D dc G gc m1 m2 w.heap.size w' ∧ Below w.heap.size w w' := by
  subst hn hm hp
  obtain ⟨n0, hn0⟩ : ∃ n0, w.heap.size = n0 := ⟨_, rfl⟩
  obtain ⟨W0, hW0⟩ : ∃ W0, (w.alloc (.cells #[.slice A im.length c, .slice A2 l.length c2, .slice A3 cl.length c3] 29)).alloc (.cells #[.slice none 0 0, .slice none 0 0, .slice none 0 0] 29) = W0 := ⟨_, rfl⟩
  have hB0 : Below n0 w W0 := by rw [← hW0, ← hn0]; exact ext_alloc (ext_alloc (Below.refl _ _))
  have hr0 : W0.heap[n0]? = some (.cells #[.slice A im.length c, .slice A2 l.length c2, .slice A3 cl.length c3] 29 (0, 0)) := by
    rw [← hW0, ← hn0]; exact (Below.heap_alloc _ _ _ (by simp)).trans (heap_alloc_new _ _)
  have hr1 : W0.heap[n0 + 1]? = some (.cells #[.slice none 0 0, .slice none 0 0, .slice none 0 0] 29 (0, 0)) := by
    rw [← hW0, ← hn0]; exact heap_new2 _ _ _
  obtain ⟨n2, hn2⟩ : ∃ n2, W0.heap.size = n2 := ⟨_, rfl⟩
  have hn02 : n0 + 2 ≤ n2 := by rw [← hn2, ← hW0, ← hn0]; simp
  have up : ∀ {α : Type} {E : Enc α} {A : Option Addr} {l : List α}, SlAt E w (Bl w.heap.size) A l → ∀ W, Below n2 W0 W → SlAt E W (Bl W.heap.size) A l := fun h W hb => by
    rw [hn0] at h
    exact (h.blk (fun g hg => (hb.block g (by have : g < n0 := hg; omega)).trans (hB0.block g hg))).more (fun g hg => by have : g < n0 := hg; have := hb.size; show g < W.heap.size; omega)
  have H1 := Lib.hid (up h1)
  have H2 := Lib.hid (up h2)
  have H3 := Lib.hid (up h3)
  have HR : Hid (∀ W, Below n2 W0 W → W.heap[n0]? = some (.cells #[.slice A im.length c, .slice A2 l.length c2, .slice A3 cl.length c3] 29 (0, 0)) ∧ W.heap[n0 + 1]? = some (.cells #[.slice none 0 0, .slice none 0 0, .slice none 0 0] 29 (0, 0))) := fun W hb => ⟨(hb.block _ (by omega)).trans hr0, (hb.block _ (by omega)).trans hr1⟩
  have HN0 := Lib.hid hn0
  have HN2 := Lib.hid hn2
  have HB0 : Hid (Below w.heap.size w W0) := by rw [hn0]; exact hB0
  have HL : Hid (SnLim im l ∧ (∀ x ∈ l, x.2.2.length ≤ 100000 ∧ ∀ y ∈ x.2.2, y.2.2.length ≤ 1000000) ∧ (∀ x ∈ cl, x.2.2.length ≤ 100000 ∧ ∀ y ∈ x.2.2, y.2.2.length ≤ 1000000)) := ⟨hL.sn, hL.sn.sav, hL.ovl⟩
  have hl1 := hL.sn.ims
  have hl2 := hL.sn.its
  have hl3 := hL.its
  simp only at hl1 hl2
  have HW0 := Lib.hid hW0
  clear h1 h2 h3 hL up hr0 hr1 hW0 hn2 hB0
  go_enter Tryz.func50, Tryz.ntmps50
  go_upto_region 1 with (fail)
  rw [HW0.out]
  obtain ⟨p0, p1, p2, _⟩ := blk3 (HR.out W0 (Below.refl _ _)).1
  go_wp2_with fail
  clear p0 p1 p2
  go_loopw [3, 16] (fun v i wr => ∃ (k : Nat) (B : Option Addr) (vc : Nat) (out : Img), k ≤ im.length ∧ i = .int .i64 k ∧ v = .slice B out.length vc ∧ Below n2 W0 wr ∧ n2 ≤ wr.heap.size ∧ Hid (out = im.take k) ∧ Hid (OwnX (fun _ => False) (encSl encSec) wr n2 43 (.slice B out.length vc) out)) (fun _ i _ => im.length - (intOf i).toNat)
  case atStart => exact ⟨0, none, 0, [], by omega, rfl, rfl, Below.refl _ _, by rw [HN2.out]; exact Nat.le_refl _, by simp [Hid], OwnX.nil_⟩
  case round =>
    obtain ⟨wo, rfl⟩ : ∃ wo : World, wo = wr := ⟨_, rfl⟩
    obtain ⟨k, B, vc, out, hk, rfl, rfl, hB, hszo, hout, hown⟩ := hrel
    by_cases hlt : k < im.length
    · obtain ⟨b, off, D, dc, rfl, hb, g0, hD, hd1, hd2⟩ := (H1.out wo hB).sl hlt
      have hrl := HL.out.1.row im[k] (List.getElem_mem hlt)
      have hst : Hid (im.take (k + 1) = im.take k ++ [im[k]]) := List.take_succ_eq_append_getElem hlt
      obtain ⟨row, hrow⟩ : ∃ x, im[k] = x := ⟨_, rfl⟩
      rw [hrow] at g0 hD hd1 hrl hst
      have hki : (k : Int) < im.length := by omega
      have hnn : (0 : Int) ≤ k := by omega
      have hol : out.length ≤ k := by rw [hout.out]; simp; omega
      have HCL := Lib.hid (cloneSecs_any D dc row.length row wo rfl hD hrl)
      clear hrow hD
      go_wp2_with fail
      refine HCL.out.mono ?_
      rintro e w4 ⟨A4, c4, rfl, k1, k2, k3, h4⟩
      have hO4 := Lib.hid ((hown.out.below h4).alloc (.cells #[.slice A4 row.length c4] 43))
      have hO4o := Lib.hid hO4.out.1
      have hlt1 := Lib.hid hown.out.lt
      have hz4 := h4.size
      have HRD : Hid ((encSl encSec).rd (w4.alloc (.cells #[.slice A4 row.length c4] 43)) (fun g => Nw n2 (w4.alloc (.cells #[.slice A4 row.length c4] 43)).heap.size g ∧ ¬ False ∧ (Value.slice B out.length vc).ownBlock ≠ some g) [.slice A4 row.length c4] row) :=
        ⟨A4, c4, rfl, k1, k2, OwnX.since (X := fun _ => False) (B := wo.heap.size) ((k3.blk (fun g hg => Below.heap_alloc _ _ _ hg.2)).more (fun g hg => hg.mono (Nat.le_refl _) (by simp))) hszo (fun g hg => hg.elim) (fun g hg => (hlt1.out g hg).2)⟩
      clear g0 k3 HCL
      go_wp2_with (at_builtin; refine Hid.out ?_)
      change wpList _ _ _ _ _ _
      refine wpList_app1 (E := encSl encSec) tyImage rfl _ _ rfl rfl hO4o.out row [.slice A4 row.length c4] rfl HRD.out (heap_alloc_new _ _) (fun _ h => h.1.2) (by simp; omega) (by unfold maxLen; omega) (by omega) ?_
      intro A5 c5 w5 hown5 hg5 hat5
      have hz5 := hg5.size
      rw [World.size_alloc] at hz5
      have hO5 : Hid (OwnX (fun _ => False) (encSl encSec) w5 n2 43 (.slice A5 (out.length + 1) c5) (out ++ [row])) := hO4.out.app hown5 hg5 hat5 (fun g hg => hg.elim)
      have hB5 : Below n2 W0 w5 := hB.trans (((h4.mono hszo).alloc (by omega) (.cells #[.slice A4 row.length c4] 43)).grown hg5 (by simp; omega) (fun g h => (hlt1.out g h).1))
      clear hown5 hg5 hat5 hO4 hO4o HRD h4
      go_wp2
      go_roundw
      case rel => exact ⟨k + 1, A5, c5, out ++ [row], hlt, by go_num, by simp, hB5, by omega, by rw [Hid, hst.out, hout.out], by simpa [Hid] using hO5.out⟩
      case measure => simp [intOf]; omega
    · have hkk : k = im.length := by omega
      subst hkk
      rw [List.take_length] at hout
      rw [hout.out] at hown ⊢
      have hIM : Hid (im.length ≤ vc ∧ vc ≤ maxLen ∧ SlAt (encSl encSec) wo (Nw n2 wo.heap.size) B im) := by
        obtain ⟨_, a, b, c⟩ := hown.out.parts
        exact ⟨a, b, c.more (fun g hg => hg.1)⟩
      obtain ⟨p0, p1, p2, _⟩ := blk3 (HR.out wo hB).1
      obtain ⟨wz, rfl⟩ : ∃ wz, wz = wo := ⟨_, rfl⟩
      obtain ⟨z1, hz1⟩ : ∃ z1, wz.heap.size = z1 := ⟨_, rfl⟩
      rw [hz1] at hIM hszo
      have hz1' : z1 ≤ wz.heap.size := by omega
      have hBz := hB
      have HZ1 := Lib.hid hz1
      clear hown hout hz1
      go_wp2_with fail
      clear p0 p1 p2
      go_loopw [6, 30] (fun v i wr => ∃ (k : Nat) (D2 : Option Addr) (dc : Nat) (out : List _), k ≤ l.length ∧ i = .int .i64 k ∧ v = .slice D2 out.length dc ∧ Below z1 wz wr ∧ z1 ≤ wr.heap.size ∧ Hid (out = l.take k) ∧ Hid (OwnX (fun _ => False) encSnp wr z1 158 (.slice D2 out.length dc) out)) (fun _ i _ => l.length - (intOf i).toNat)
      case atStart => exact ⟨0, none, 0, [], by omega, rfl, rfl, Below.refl _ _, by omega, by simp [Hid], OwnX.nil_⟩
      case round =>
        obtain ⟨wp, rfl⟩ : ∃ wo : World, wo = wr := ⟨_, rfl⟩
        obtain ⟨k, D2, dc, out, hk2, rfl, rfl, hBp, hszp, hout, hown⟩ := hrel
        have hBp2 : Below n2 W0 wp := hBz.trans (hBp.mono (by omega))
        by_cases hlt2 : k < l.length
        · obtain ⟨b, off, D, dd, rfl, hb, g0, g1, g2, hD, hd1, hd2, hi1, hi2⟩ := (H2.out wp hBp2).snp hlt2
          obtain ⟨hsl, hsd⟩ := HL.out.2.1 l[k] (List.getElem_mem hlt2)
          have hst : Hid (l.take (k + 1) = l.take k ++ [l[k]]) := List.take_succ_eq_append_getElem hlt2
          obtain ⟨x, hx⟩ : ∃ x, l[k] = x := ⟨_, rfl⟩
          rw [hx] at g0 g1 g2 hD hd1 hi1 hi2 hsl hsd hst
          obtain ⟨num, tm, sv⟩ := x
          simp only at g0 g1 g2 hD hd1 hi1 hi2 hsl hsd
          have hki : (k : Int) < l.length := by omega
          have hnn : (0 : Int) ≤ k := by omega
          have hol : out.length ≤ k := by rw [hout.out]; simp; omega
          clear hx
          obtain ⟨W1, hW1⟩ : ∃ W1, wp.alloc (.cells #[.int .i64 num, .int .i64 tm, .slice D sv.length dd] 158) = W1 := ⟨_, rfl⟩
          have HW1 := Lib.hid hW1
          have hb1 : Below wp.heap.size wp W1 := by rw [← hW1]; exact ext_alloc (Below.refl _ _)
          have hr1 : W1.heap[wp.heap.size]? = some (.cells #[.int .i64 num, .int .i64 tm, .slice D sv.length dd] 158 (0, 0)) := by rw [← hW1]; exact heap_alloc_new _ _
          have hs1 : W1.heap.size = wp.heap.size + 1 := by rw [← hW1]; simp
          have HWR := Lib.hid (clWrites_any D dd sv.length sv W1 rfl ((hD.blk (w' := W1) (fun g hg => hb1.block g hg)).more (fun g hg => by have : g < wp.heap.size := hg; show g < W1.heap.size; omega)) hsl hsd)
          clear hW1 hD
          go_upto_region 11 with (fail)
          rw [HW1.out]
          clear HW1 g0 g1 g2
          obtain ⟨r0, r1, r2, rf⟩ := blk3 hr1
          go_wp2_with fail
          refine HWR.out.mono ?_
          rintro e w2 ⟨A3, c3, rfl, hox, hb2⟩
          obtain ⟨_, k1, k2, k3⟩ := hox.parts
          have hr2 : w2.heap[wp.heap.size]? = some (.cells #[.int .i64 num, .int .i64 tm, .slice D sv.length dd] 158 (0, 0)) := (hb2.block _ (by omega)).trans hr1
          have HK3 := Lib.hid k3
          clear r0 r1 r2 rf hr1 HWR k3 hox
          obtain ⟨r0, r1, r2, rf⟩ := blk3 hr2
          go_upto_region 12 with (fail)
          obtain ⟨W3, hW3⟩ : ∃ W3, w2.setCell ⟨wp.heap.size, 2, none⟩ (.slice A3 sv.length c3) = W3 := ⟨_, rfl⟩
          rw [hW3]
          have hr3 : W3.heap[wp.heap.size]? = some (.cells #[.int .i64 num, .int .i64 tm, .slice A3 sv.length c3] 158 (0, 0)) := by rw [← hW3]; exact blk3_set hr2 _
          have hs3 : W3.heap.size = w2.heap.size := by rw [← hW3]; simp [World.setCell]
          have hs2 := hb2.size
          have hb3 : Below wp.heap.size wp W3 := by rw [← hW3]; exact (hb1.trans (hb2.mono hb1.size)).setCell (p := ⟨wp.heap.size, 2, none⟩) (Nat.le_refl wp.heap.size) _
          have hK3 : Hid (SlAt encWr W3 (Nw W1.heap.size W3.heap.size) A3 sv) := by
            rw [hs3]
            refine (HK3.out.more (fun g hg => hg.1)).blk (fun g hg => ?_)
            rw [← hW3]
            exact Below.heap_setCell _ _ _ _ (by have := hg.1; show g ≠ wp.heap.size; omega)
          have hs3g : w2.heap.size ≤ W3.heap.size := by omega
          have hs1g : wp.heap.size + 1 ≤ W1.heap.size := by omega
          clear r0 r1 r2 rf hr2 hW3 HK3 hb2 hb1 hs3 hs1
          obtain ⟨r0, r1, r2, _⟩ := blk3 hr3
          have hO4 := Lib.hid ((hown.out.below hb3).alloc (.cells #[.int .i64 num, .int .i64 tm, .slice A3 sv.length c3] 158))
          have hO4o := Lib.hid hO4.out.1
          have hlt1 := Lib.hid hown.out.lt
          have HRD : Hid ((encSnp).rd (W3.alloc (.cells #[.int .i64 num, .int .i64 tm, .slice A3 sv.length c3] 158)) (fun g => Nw z1 (W3.alloc (.cells #[.int .i64 num, .int .i64 tm, .slice A3 sv.length c3] 158)).heap.size g ∧ ¬ False ∧ (Value.slice D2 out.length dc).ownBlock ≠ some g) [.int .i64 num, .int .i64 tm, .slice A3 sv.length c3] (num, tm, sv)) :=
            snp_mk (x := (num, tm, sv)) hi1 hi2 k1 k2 (OwnX.since (X := fun _ => False) (B := W1.heap.size) ((hK3.out.blk (fun g hg => Below.heap_alloc _ _ _ hg.2)).more (fun g hg => hg.mono (Nat.le_refl _) (by simp))) (by omega) (fun g hg => hg.elim) (fun g hg => by have := (hlt1.out g hg).2; omega))
          go_wp2_with (at_builtin; refine Hid.out ?_)
          change wpList _ _ _ _ _ _
          refine wpList_app1 (E := encSnp) tySnps rfl _ _ rfl rfl hO4o.out (num, tm, sv) [.int .i64 num, .int .i64 tm, .slice A3 sv.length c3] rfl HRD.out (heap_alloc_new _ _) (fun _ h => h.1.2) (by simp; omega) (by unfold maxLen; omega) (by omega) ?_
          intro A5 c5 w5 hown5 hg5 hat5
          have hz5 := hg5.size
          rw [World.size_alloc] at hz5
          have hO5 : Hid (OwnX (fun _ => False) encSnp w5 z1 158 (.slice A5 (out.length + 1) c5) (out ++ [(num, tm, sv)])) := hO4.out.app hown5 hg5 hat5 (fun g hg => hg.elim)
          have hB5 : Below z1 wz w5 := hBp.trans (((hb3.mono hszp).alloc (by omega) (.cells #[.int .i64 num, .int .i64 tm, .slice A3 sv.length c3] 158)).grown hg5 (by simp; omega) (fun g h => (hlt1.out g h).1))
          clear hown5 hg5 hat5 r0 r1 r2 hr3 hO4 hO4o HRD hK3
          go_wp2
          go_roundw
          case rel => exact ⟨k + 1, A5, c5, out ++ [(num, tm, sv)], hlt2, by go_num, by simp, hB5, by omega, by rw [Hid, hst.out, hout.out], by simpa [Hid] using hO5.out⟩
          case measure => simp [intOf]; omega
        · have hkk : k = l.length := by omega
          subst hkk
          rw [List.take_length] at hout
          rw [hout.out] at hown ⊢
          clear hout
          have hSN : Hid (l.length ≤ dc ∧ dc ≤ maxLen ∧ SlAt encSnp wp (Nw z1 wp.heap.size) D2 l) := by
            obtain ⟨_, a, b, c⟩ := hown.out.parts
            exact ⟨a, b, c.more (fun g hg => hg.1)⟩
          obtain ⟨wa, rfl⟩ : ∃ wa, wa = wz := ⟨_, rfl⟩
          obtain ⟨wz, rfl⟩ : ∃ wz, wz = wp := ⟨_, rfl⟩
          obtain ⟨D1, rfl⟩ : ∃ D1, D1 = D2 := ⟨_, rfl⟩
          obtain ⟨d1, rfl⟩ : ∃ d1, d1 = dc := ⟨_, rfl⟩
          have HB1 := Lib.hid hBp
          clear hBz hBp
          have hBz := hBp2
          obtain ⟨p0, p1, p2, _⟩ := blk3 (HR.out wz hBp2).1
          obtain ⟨z2, hz2⟩ : ∃ z2, wz.heap.size = z2 := ⟨_, rfl⟩
          rw [hz2] at hSN hszp
          have hz2' : z2 ≤ wz.heap.size := by omega
          have HZ2 := Lib.hid hz2
          clear hown hz2 hBp2
          go_wp2_with fail
          clear p0 p1 p2
          go_loopw [9, 46] (fun v i wr => ∃ (k : Nat) (D2 : Option Addr) (dc : Nat) (out : List CB), k ≤ cl.length ∧ i = .int .i64 k ∧ v = .slice D2 out.length dc ∧ Below z2 wz wr ∧ z2 ≤ wr.heap.size ∧ Hid (out.map (·.1) = cl.take k) ∧ Hid (ClsOwn wr z2 D2 dc out)) (fun _ i _ => cl.length - (intOf i).toNat)
          case atStart => exact ⟨0, none, 0, [], by omega, rfl, rfl, Below.refl _ _, by omega, by simp [Hid], ⟨Own.nil_, (fun y hy => by cases hy), List.Pairwise.nil⟩⟩
          case round =>
            obtain ⟨wp, rfl⟩ : ∃ wo : World, wo = wr := ⟨_, rfl⟩
            obtain ⟨k, D2, dc, out, hk2, rfl, rfl, hBp, hszp, hout, hown⟩ := hrel
            have hBp2 : Below n2 W0 wp := hBz.trans (hBp.mono (by omega))
            by_cases hlt2 : k < cl.length
            · obtain ⟨b, off, D, dd, rfl, hb, g0, g1, g2, hD, hd1, hd2, hi1, hi2⟩ := (H3.out wp hBp2).cln hlt2
              obtain ⟨hsl, hsd⟩ := HL.out.2.2 cl[k] (List.getElem_mem hlt2)
              have hst : Hid (cl.take (k + 1) = cl.take k ++ [cl[k]]) := List.take_succ_eq_append_getElem hlt2
              obtain ⟨x, hx⟩ : ∃ x, cl[k] = x := ⟨_, rfl⟩
              rw [hx] at g0 g1 g2 hD hd1 hi1 hi2 hsl hsd hst
              obtain ⟨num, tm, sv⟩ := x
              simp only at g0 g1 g2 hD hd1 hi1 hi2 hsl hsd
              have hki : (k : Int) < cl.length := by omega
              have hnn : (0 : Int) ≤ k := by omega
              have hol : out.length ≤ k := by have := congrArg List.length hout.out; rw [List.length_map] at this; rw [this]; simp; omega
              clear hx
              obtain ⟨W1, hW1⟩ : ∃ W1, wp.alloc (.cells #[.string num, .int .i64 tm, .slice D sv.length dd] 87) = W1 := ⟨_, rfl⟩
              have HW1 := Lib.hid hW1
              have hb1 : Below wp.heap.size wp W1 := by rw [← hW1]; exact ext_alloc (Below.refl _ _)
              have hr1 : W1.heap[wp.heap.size]? = some (.cells #[.string num, .int .i64 tm, .slice D sv.length dd] 87 (0, 0)) := by rw [← hW1]; exact heap_alloc_new _ _
              have hs1 : W1.heap.size = wp.heap.size + 1 := by rw [← hW1]; simp
              have HWR := Lib.hid (clWrites_any D dd sv.length sv W1 rfl ((hD.blk (w' := W1) (fun g hg => hb1.block g hg)).more (fun g hg => by have : g < wp.heap.size := hg; show g < W1.heap.size; omega)) hsl hsd)
              clear hW1 hD
              go_upto_region 18 with (fail)
              rw [HW1.out]
              clear HW1 g0 g1 g2
              obtain ⟨r0, r1, r2, rf⟩ := blk3 hr1
              go_wp2_with fail
              refine HWR.out.mono ?_
              rintro e w2 ⟨A3, c3, rfl, hox, hb2⟩
              obtain ⟨_, k1, k2, k3⟩ := hox.parts
              have hr2 : w2.heap[wp.heap.size]? = some (.cells #[.string num, .int .i64 tm, .slice D sv.length dd] 87 (0, 0)) := (hb2.block _ (by omega)).trans hr1
              have HK3 := Lib.hid k3
              have HOX := Lib.hid (show OwnIn w2 W1.heap.size w2.heap.size (.slice A3 sv.length c3) sv from ⟨hox.1.more (fun g hg => ⟨hg.1, hg.2.2⟩) (fun g hg hS => hS.2 hg), fun g hg => (hox.lt g hg).2⟩)
              clear r0 r1 r2 rf hr1 HWR k3 hox
              obtain ⟨r0, r1, r2, rf⟩ := blk3 hr2
              go_upto_region 19 with (fail)
              obtain ⟨W3, hW3⟩ : ∃ W3, w2.setCell ⟨wp.heap.size, 2, none⟩ (.slice A3 sv.length c3) = W3 := ⟨_, rfl⟩
              rw [hW3]
              have hr3 : W3.heap[wp.heap.size]? = some (.cells #[.string num, .int .i64 tm, .slice A3 sv.length c3] 87 (0, 0)) := by rw [← hW3]; exact blk3_set hr2 _
              have hs3 : W3.heap.size = w2.heap.size := by rw [← hW3]; simp [World.setCell]
              have hs2 := hb2.size
              have hb3 : Below wp.heap.size wp W3 := by rw [← hW3]; exact (hb1.trans (hb2.mono hb1.size)).setCell (p := ⟨wp.heap.size, 2, none⟩) (Nat.le_refl wp.heap.size) _
              have hK3 : Hid (OwnIn W3 W1.heap.size w2.heap.size (.slice A3 sv.length c3) sv) := HOX.out.keep (fun g hg => by
                rw [← hW3]
                exact Below.heap_setCell _ _ _ _ (by have := hg.1; show g ≠ wp.heap.size; omega))
              have hs3g : w2.heap.size ≤ W3.heap.size := by omega
              have hs1g : wp.heap.size + 1 ≤ W1.heap.size := by omega
              have hs3g2 : W3.heap.size ≤ w2.heap.size := by omega
              clear r0 r1 r2 rf hr2 hW3 HK3 hb2 hb1 hs3 hs1
              obtain ⟨r0, r1, r2, _⟩ := blk3 hr3
              have hO4o := Lib.hid ((hown.out.own.blk (w' := W3) (fun b hb => by
                rcases hb with hb | hb
                · exact hb.elim
                · exact hb3.block b (hown.out.own.lt b hb).2)).blk (w' := W3.alloc (.cells #[.string num, .int .i64 tm, .slice A3 sv.length c3] 87)) (fun b hb => by
                rcases hb with hb | hb
                · exact hb.elim
                · exact Below.heap_alloc _ _ _ (by have := (hown.out.own.lt b hb).2; omega)))
              have hlt1 := Lib.hid hown.out.own.lt
              obtain ⟨y, hy⟩ : ∃ y : CB, y = ((num, tm, sv), A3, c3, W1.heap.size, w2.heap.size) := ⟨_, rfl⟩
              have HRD : Hid (encCB.rd (W3.alloc (.cells #[.string num, .int .i64 tm, .slice A3 sv.length c3] 87)) (fun _ => False) [.string num, .int .i64 tm, .slice A3 sv.length c3] y) := by
                rw [hy]; exact ⟨rfl, hi1, hi2⟩
              have HY := Lib.hid hy
              clear hy
              go_wp2_with (at_builtin; refine Hid.out ?_)
              change wpList _ _ _ _ _ _
              refine wpList_app1 (E := encCB) tyCBs rfl _ _ rfl rfl hO4o.out y [.string num, .int .i64 tm, .slice A3 sv.length c3] rfl HRD.out (heap_alloc_new _ _) (fun _ h => h.elim) (by simp; omega) (by unfold maxLen; omega) (by omega) ?_
              intro A5 c5 w5 hown5 hg5 hat5
              have hz5 := hg5.size
              rw [World.size_alloc] at hz5
              have ha1 : (out ++ [y]).length = out.length + 1 := by simp
              have hk5 : ∀ b, b < W3.heap.size → (Value.slice D2 out.length dc).ownBlock ≠ some b → w5.heap[b]? = W3.heap[b]? := fun b hb hne => (hg5.block b (by rw [World.size_alloc]; omega) (fun e => hne e.symm)).trans (Below.heap_alloc _ _ _ hb)
              have hO5 : Hid (ClsOwn w5 z2 A5 c5 (out ++ [y])) := by
                have hvb : ∀ b, (Value.slice A5 (out ++ [y]).length c5).ownBlock = some b → (Value.slice D2 out.length dc).ownBlock = some b ∨ b = W3.heap.size + 1 := fun b hb => by
                  rw [ha1] at hb
                  have hat5' : (Value.slice A5 (out.length + 1) c5).ownBlock = (Value.slice D2 out.length dc).ownBlock ∨ (Value.slice A5 (out.length + 1) c5).ownBlock = some (W3.heap.size + 1) := by rw [World.size_alloc] at hat5; exact hat5
                  rcases hat5' with hat | hat
                  · exact Or.inl (by rw [← hat]; exact hb)
                  · rw [hat] at hb; injection hb with hb; exact Or.inr hb.symm
                refine ⟨by rw [ha1]; exact hown5, fun y' hy' => ?_, ?_⟩
                · rcases List.mem_append.1 hy' with hy' | hy'
                  · obtain ⟨a, b, c, d⟩ := hown.out.ov y' hy'
                    refine ⟨a, by omega, c.keep (fun x hx => (hk5 x (by have := hx.2; have := hb3.size; omega) (fun e => d x e hx)).trans (hb3.block x (by have := hx.2; omega))), fun x hx hn => ?_⟩
                    rcases hvb x hx with e | e
                    · exact d x e hn
                    · have := hn.2; have := hb3.size; omega
                  · have hvb' := hvb
                    rw [HY.out] at hvb'
                    rw [List.mem_singleton.1 hy', HY.out]
                    refine ⟨by show z2 ≤ W1.heap.size; omega, by show w2.heap.size ≤ w5.heap.size; omega, hK3.out.keep (fun x hx => hk5 x (by have := hx.2; omega) (fun e => by have := (hlt1.out x e).2; have := hx.1; omega)), fun x hx hn => ?_⟩
                    rcases hvb' x hx with e | e
                    · have := (hlt1.out x e).2; have := hn.1; simp only at this; omega
                    · have := hn.2; simp only at this; omega
                · rw [List.pairwise_append]
                  refine ⟨hown.out.dj, List.pairwise_singleton _ _, fun a ha b hb => ?_⟩
                  rw [List.mem_singleton.1 hb, HY.out]
                  have := (hown.out.ov a ha).2.1
                  show a.2.2.2.2 ≤ W1.heap.size
                  omega
              have hB5 : Below z2 wz w5 := hBp.trans (((hb3.mono hszp).alloc (by omega) (.cells #[.string num, .int .i64 tm, .slice A3 sv.length c3] 87)).grown hg5 (by rw [World.size_alloc]; omega) (fun g h => (hlt1.out g h).1))
              have hm5 : Hid ((out ++ [y]).map (·.1) = cl.take (k + 1)) := by rw [Hid, hst.out, List.map_append, hout.out, HY.out]; rfl
              clear hown5 hg5 hat5 r0 r1 r2 hr3 hO4o HRD hK3 hk5
              go_wp2
              go_roundw
              case rel => exact ⟨k + 1, A5, c5, out ++ [y], hlt2, by go_num, by rw [ha1], hB5, by omega, hm5.out, hO5.out⟩
              case measure => simp [intOf]; omega
            · have hkk : k = cl.length := by omega
              subst hkk
              rw [List.take_length] at hout
              have hcll : out.length = cl.length := by have := congrArg List.length hout.out; rw [List.length_map] at this; exact this
              have HYS := Lib.hid (show ∃ ys, ys.map (·.1) = cl ∧ ClsOwn wp z2 D2 dc ys from ⟨out, hout.out, hown.out⟩)
              have hown2 := Lib.hid (hown.out.ownX hout.out)
              clear hown hout
              have hown := hown2
              clear hown2
              rw [hcll]
              clear hcll
              obtain ⟨v0, v1, v2, vf⟩ := blk3 (HR.out wp hBp2).2
              have HHP := Lib.hid (HR.out wp hBp2).2
              have HB2 := Lib.hid hBp
              have HBP2 := Lib.hid hBp2
              clear hBp hBp2 hBz
              go_wp2_with fail
              change bodyPost _ _ _ _ _ (sw3 wp (n0 + 1) (.slice B im.length vc) (.slice D1 l.length d1) (.slice D2 cl.length dc))
              have hz := sw3_row HHP.out (.slice B im.length vc) (.slice D1 l.length d1) (.slice D2 cl.length dc)
              have ho : ∀ g, n2 ≤ g → (sw3 wp (n0 + 1) (.slice B im.length vc) (.slice D1 l.length d1) (.slice D2 cl.length dc)).heap[g]? = wp.heap[g]? := fun g hg => sw3_other (by omega) _ _ _
              have hBe : Below n0 W0 (sw3 wp (n0 + 1) (.slice B im.length vc) (.slice D1 l.length d1) (.slice D2 cl.length dc)) := (((HBP2.out.mono (by omega : n0 ≤ n2)).setCell (p := ⟨n0 + 1, 0, none⟩) (by show n0 ≤ n0 + 1; omega) _).setCell (p := ⟨n0 + 1, 1, none⟩) (by show n0 ≤ n0 + 1; omega) _).setCell (p := ⟨n0 + 1, 2, none⟩) (by show n0 ≤ n0 + 1; omega) _
              have hsz : (sw3 wp (n0 + 1) (.slice B im.length vc) (.slice D1 l.length d1) (.slice D2 cl.length dc)).heap.size = wp.heap.size := by simp [sw3, World.setCell]
              generalize sw3 wp (n0 + 1) (.slice B im.length vc) (.slice D1 l.length d1) (.slice D2 cl.length dc) = W3 at hz ho hBe hsz ⊢
              obtain ⟨y0, y1, y2, _⟩ := blk3 hz
              have hret : ClRet (im, l) cl B vc D1 d1 D2 dc z1 z2 n0 W3 :=
                ⟨⟨hIM.out.1, hIM.out.2.1, (hIM.out.2.2.blk (fun g hg => (ho g hg.1).trans ((HB2.out.block g (by have := hg.2; omega)).trans (HB1.out.block g hg.2)))).more (fun g hg => ⟨by have := hg.1; omega, hg.2⟩)⟩,
                  ⟨hSN.out.1, hSN.out.2.1, hSN.out.2.2.blk (fun g hg => (ho g (by have := hg.1; omega)).trans (HB2.out.block g hg.2))⟩,
                  ⟨by omega, by omega, by omega⟩, hown.out.keep (by omega) (fun g h1 h2 _ => ho g (by omega)), by
                    obtain ⟨ys, e1, e2⟩ := HYS.out
                    exact ⟨ys, e1, e2.keep (by omega) (fun g h1 h2 => ho g (by omega))⟩⟩
              have hHR := Lib.hid hret
              have hBee := Lib.hid hBe
              clear hret hBe ho hsz hown HHP HBP2
              refine bodyPost_ret (v := .agg #[.slice B im.length vc, .slice D1 l.length d1, .slice D2 cl.length dc]) ?_ rfl ?_
              · simp [results, Tryz.results50, Tryz.f50, go_sem, y0, y1, y2]
              · exact ⟨B, vc, D1, d1, D2, dc, z1, z2, rfl, by rw [HN0.out]; exact hHR.out, HB0.out.trans (by rw [HN0.out]; exact hBee.out)⟩
end Go.Proofs.YtgndgkjefgjamaaGreat
namespace Go.Proofs.YtgndgkjefgjamaaGreat

section
variable {P : Program} {ops : Array Oper} {Q : Exit → Act → World → Prop} {md : Region.Mode} {S : World → Prop} {k : Nat}
/-- whatever order is picked from here on; a condition holds behind every operation but the last one, number k -/
def wpAnyU (P : Program) (md : Region.Mode) (ops : Array Oper) (Q : Exit → Act → World → Prop) (S : World → Prop) (k : Nat) : Nat → Array Bool → Act → World → Prop
  | 0, listed, a, w => Region.ready md ops listed = [] ∧ Q .normal a w
  | fuel + 1, listed, a, w =>
    (Region.ready md ops listed = [] → Q .normal a w) ∧
    ∀ i ∈ Region.ready md ops listed, wpOp P ops Q i (fun a' w' => (i ≠ k → S w') ∧ wpAnyU P md ops Q S k fuel (listed.setIfInBounds i true) a' w') a w
theorem wpAny_ofU : ∀ (fuel : Nat) (listed : Array Bool) (a : Act) (w : World), wpAnyU P md ops Q S k fuel listed a w → wpAny P md ops Q fuel listed a w
  | 0, _, _, _, h => h
  | fuel + 1, _, _, _, h => ⟨h.1, fun i hi => wpOp_mono (fun a' w' h' => wpAny_ofU fuel _ a' w' h'.2) (h.2 i hi)⟩
/-- operation k waits for operation i -/
def waitsFor (md : Region.Mode) (ops : Array Oper) (k i : Nat) : Bool := match ops[k]? with
  | none => true
  | some o => o.after.any fun e => Region.binds md e && e.on == i
theorem waits_not {i : Nat} {listed : Array Bool} (h : waitsFor md ops k i = true) (hi : i ∈ Region.ready md ops listed) : ¬ k ∈ Region.ready md ops listed := fun hk => by
  obtain ⟨_, o, ho, hall⟩ := mem_ready.1 hk
  unfold waitsFor at h
  rw [ho] at h
  simp only [Array.any_eq_true] at h
  obtain ⟨j, hj, hb⟩ := h
  simp only [Bool.and_eq_true, beq_iff_eq] at hb
  have h1 := hall _ (Array.getElem_mem hj) hb.1
  have h0 := (mem_ready.1 hi).1
  rw [hb.2] at h1
  rcases Nat.lt_or_ge i listed.size with h' | h'
  · simp [h'] at h0 h1; rw [h0] at h1; cases h1
  · simp [Array.getElem?_eq_none h'] at h1
theorem wpAnyU_first {i : Nat} {oi : Oper} {v : Value} (hi : ops[i]? = some oi) (hsel : ∀ (j : Nat) (o : Oper) cs b, ops[j]? = some o → o.op ≠ .select cs b)
    (hQ : ∀ c a w, Q (.panic c) (a.put oi.dst v) w → Q (.panic c) a w) (hik : i ≠ k) (hwt : waitsFor md ops k i = true) :
    ∀ (fuel : Nat) (listed : Array Bool) (a : Act) (w : World),
      (∀ j oj, ops[j]? = some oj → j ≠ i → listed.getD j true = false → (∀ e ∈ oj.after, Region.binds md e = true → e.on ≠ i) → oi.apart ops oj = true) →
      i ∈ Region.ready md ops listed → YieldsIf P ops S oi v a → S w →
      wpAnyU P md ops Q S k fuel (listed.setIfInBounds i true) (a.put oi.dst v) w → wpAnyU P md ops Q S k (fuel + 1) listed a w := by
  intro fuel
  induction fuel with
  | zero =>
    intro listed a w _ hr hy hS H
    refine ⟨fun h => (by rw [h] at hr; cases hr), fun j hj => ?_⟩
    by_cases hji : j = i
    · subst hji; exact hy.wpOp hi hS ⟨fun _ => hS, H⟩
    · have := ready_mono hj hji
      rw [H.1] at this
      cases this
  | succ fuel ih =>
    intro listed a w hfree hr hy hS H
    refine ⟨fun h => (by rw [h] at hr; cases hr), fun j hj => ?_⟩
    by_cases hji : j = i
    · subst hji; exact hy.wpOp hi hS ⟨fun _ => hS, H⟩
    · have hjk : j ≠ k := fun e => by subst e; exact waits_not hwt hr hj
      have h1 := H.2 j (ready_mono hj hji)
      obtain ⟨hjun, oj, hoj, hall⟩ := mem_ready.1 hj
      have hnot : ∀ e ∈ oj.after, Region.binds md e = true → e.on ≠ i := fun e he hb heq => by
        have h1 := hall e he hb
        have h0 := (mem_ready.1 hr).1
        rw [heq] at h1
        rcases Nat.lt_or_ge i listed.size with h' | h'
        · simp [h'] at h0 h1; rw [h0] at h1; cases h1
        · simp [Array.getElem?_eq_none h'] at h1
      have h2 := wpOp_putIf hoj (hfree j oj hoj hji hjun hnot) (fun cs b => hsel i oi cs b hi) (fun cs b => hsel j oj cs b hoj) hQ hy h1
      have hfree' : ∀ m ok, ops[m]? = some ok → m ≠ i → (listed.setIfInBounds j true).getD m true = false →
          (∀ e ∈ ok.after, Region.binds md e = true → e.on ≠ i) → oi.apart ops ok = true := fun m ok hm hmi hun hno => by
        refine hfree m ok hm hmi ?_ hno
        by_cases hjm : j = m
        · subst hjm; exact hjun
        · rw [getD_set_ne true hjm] at hun; exact hun
      refine wpOp_mono (fun a' w' h3 => ⟨h3.2.1, ih (listed.setIfInBounds j true) a' w' hfree' (ready_mono hr (Ne.symm hji)) h3.1 (h3.2.1 hjk) ?_⟩) h2
      rw [Array.setIfInBounds_comm _ _ hji]
      exact h3.2.2
/-- take number i first -/
theorem wpAnyU_take {i : Nat} {oi : Oper} {v : Value} {fuel : Nat} {listed : Array Bool} {a : Act} {w : World} (hi : ops[i]? = some oi)
    (hs : Region.noSelect ops = true) (hf : Region.free md ops listed i = true) (hr : (Region.ready md ops listed).contains i = true) (hk : (waitsFor md ops k i && !(i == k)) = true)
    (hQ : ∀ c a w, Q (.panic c) (a.put oi.dst v) w → Q (.panic c) a w) (hw : Region.wanted oi (yielded ops a.tmps) = true) (hy : ∀ w, S w → (execOp a.eval oi).run P w = .ok (.value v) w) (hS : S w)
    (h : wpAnyU P md ops Q S k fuel (listed.setIfInBounds i true) (a.put oi.dst v) w) : wpAnyU P md ops Q S k (fuel + 1) listed a w := by
  simp only [Bool.and_eq_true, Bool.not_eq_true', beq_eq_false_iff_ne] at hk
  exact wpAnyU_first hi (Region.noSelect_spec hs) hQ hk.2 hk.1 fuel listed a w (Region.free_spec hi hf) (by simpa using hr) (Or.inl ⟨hw, hy⟩) hS h
/-- take number i first: its slot by name -/
theorem wpAnyU_takeD {i : Nat} {oi : Oper} {v : Value} {d : Nat} {fuel : Nat} {listed : Array Bool} {a : Act} {w : World} (hi : ops[i]? = some oi) (hd : oi.dst = some d)
    (hs : Region.noSelect ops = true) (hf : Region.free md ops listed i = true) (hr : (Region.ready md ops listed).contains i = true) (hk : (waitsFor md ops k i && !(i == k)) = true)
    (hQ : ∀ c a w, Q (.panic c) (a.put (some d) v) w → Q (.panic c) a w) (hw : Region.wanted oi (yielded ops a.tmps) = true) (hy : ∀ w, S w → (execOp a.eval oi).run P w = .ok (.value v) w) (hS : S w)
    (h : wpAnyU P md ops Q S k fuel (listed.setIfInBounds i true) { tmps := a.tmps.setIfInBounds d v, defers := a.defers } w) : wpAnyU P md ops Q S k (fuel + 1) listed a w :=
  wpAnyU_take (v := v) hi hs hf hr hk (by rw [hd]; exact hQ) hw hy hS (by rw [hd]; exact h)
/-- the only one that may come up -/
theorem wpAnyU_one {i : Nat} {o : Oper} {fuel : Nat} {listed : Array Bool} {a : Act} {w : World} (hr : Region.ready md ops listed = [i]) (ho : ops[i]? = some o)
    (h : ∀ K' : Act → World → Prop, Shut (∀ a w, (i ≠ k → S w) → wpAnyU P md ops Q S k fuel (listed.setIfInBounds i true) a w → K' a w) → if Region.wanted o (yielded ops a.tmps) = true then Oper.wp P o a w K' Q else K' (a.put o.dst undef) w) :
    wpAnyU P md ops Q S k (fuel + 1) listed a w :=
  ⟨fun h0 => by rw [hr] at h0; simp at h0, fun j hj => by
    rw [hr, List.mem_singleton] at hj
    subst hj
    exact wpOp_step ho (fun K' hK => h K' (fun a w hS hW => hK a w ⟨hS, hW⟩))⟩
/-- the only one that may come up, without a guard -/
theorem wpAnyU_op {i : Nat} {o : Oper} {fuel : Nat} {listed : Array Bool} {a : Act} {w : World} (hr : Region.ready md ops listed = [i]) (ho : ops[i]? = some o) (hg : o.guard = none)
    (h : ∀ K' : Act → World → Prop, Shut (∀ a w, (i ≠ k → S w) → wpAnyU P md ops Q S k fuel (listed.setIfInBounds i true) a w → K' a w) → Oper.wp P o a w K' Q) :
    wpAnyU P md ops Q S k (fuel + 1) listed a w :=
  wpAnyU_one hr ho (fun K' hK => by rw [if_pos (by simp [Region.wanted, hg])]; exact h K' hK)
theorem wpAnyU_done {listed : Array Bool} {a : Act} {w : World} (hr : Region.ready md ops listed = []) (h : Q .normal a w) : ∀ fuel, wpAnyU P md ops Q S k fuel listed a w
  | 0 => ⟨hr, h⟩
  | _ + 1 => ⟨fun _ => h, by rw [hr]; simp⟩
theorem wp_region_U {id : Nat} {a : Act} {w : World} (S : World → Prop) (k : Nat) (hm : P.follows .mixedOrders = true)
    (h : wpAnyU P .any ops Q S k ops.size (Array.replicate ops.size false) a w.drew) : (Code.region id ops true).wp P Q a w :=
  wp_region_any hm (wpAny_ofU _ _ _ _ h)
end
end Go.Proofs.YtgndgkjefgjamaaGreat
namespace Go.Proofs.YtgndgkjefgjamaaGreat
open Go.RowKit Go.Shelf
attribute [local go_sem] Oper.semAt_some

set_option maxHeartbeats 1000000 in
theorem clSizes (A : Option Addr) (c n : Nat) (im : Img) (w : World) (hn : im.length = n) (h1 : SlAt (encSl encSec) w (Bl w.heap.size) A im) (hl : n ≤ 100000) :
    Calls Tryz.prog 58 #[.slice A n c] w fun e w' => ∃ B vc, e = .returned (.slice B n vc) ∧ n ≤ vc ∧ vc ≤ maxLen ∧ SlAt encInt w' (Nw w.heap.size w'.heap.size) B (lens im) ∧ Below w.heap.size w w' := by
  subst hn
  have H1 : Hid (∀ w', Below w.heap.size w w' → SlAt (encSl encSec) w' (Bl w.heap.size) A im) := fun w' hb => h1.below hb
  clear h1
  go_enter Tryz.func58, Tryz.ntmps58
  go_wp2
  go_loopw [3, 8] (fun v i wr => ∃ (k : Nat) (B : Option Addr) (vc : Nat) (out : List Int), k ≤ im.length ∧ i = .int .i64 k ∧ v = .slice B out.length vc ∧ Below w.heap.size w wr ∧ Hid (out = lens (im.take k)) ∧ Hid (OwnX (fun _ => False) encInt wr w.heap.size 3 (.slice B out.length vc) out)) (fun _ i _ => im.length - (intOf i).toNat)
  case atStart => exact ⟨0, none, 0, [], by omega, rfl, rfl, Below.refl _ _, by simp [Hid, lens], OwnX.nil_⟩
  case round =>
    obtain ⟨wo, rfl⟩ : ∃ wo : World, wo = wr := ⟨_, rfl⟩
    obtain ⟨k, B, vc, out, hk, rfl, rfl, hB, hout, hown⟩ := hrel
    by_cases hlt : k < im.length
    · obtain ⟨b, off, D, dc, rfl, hb, g0, hD, hd1, hd2⟩ := (H1.out wo hB).sl hlt
      have hst : Hid (lens (im.take (k + 1)) = lens (im.take k) ++ [(im[k].length : Int)]) := by rw [Hid, List.take_succ_eq_append_getElem hlt, lens, List.map_append]; rfl
      obtain ⟨n, hn⟩ : ∃ n, im[k].length = n := ⟨_, rfl⟩
      rw [hn] at g0 hd1 hst
      have hki : (k : Int) < im.length := by omega
      have hnn : (0 : Int) ≤ k := by omega
      have hol : out.length ≤ k := by rw [hout.out]; simp [lens]; omega
      have hszo := hB.size
      have hn63 : (n : Int) ≤ 9223372036854775807 := by unfold maxLen at hd2; omega
      have hO4 := Lib.hid (hown.out.alloc (.cells #[.int .i64 n] 3))
      have hO4o := Lib.hid hO4.out.1
      have hlo := Lib.hid hown.out.lt
      have HRD : Hid (encInt.rd (wo.alloc (.cells #[.int .i64 n] 3)) (fun g => Nw w.heap.size (wo.alloc (.cells #[.int .i64 n] 3)).heap.size g ∧ ¬ (fun _ => False) g ∧ (Value.slice B out.length vc).ownBlock ≠ some g) [.int .i64 n] (n : Int)) := ⟨rfl, by unfold I64; omega⟩
      clear hn hD hd1 hd2
      go_wp2_with (at_builtin; refine Hid.out ?_)
      change wpList _ _ _ _ _ _
      refine wpList_app1 (E := encInt) (t := 113) (e := 3) (bytes := 8) (sliceTy_mk (z := .int .i64 0) Tryz.underlying113 (by kernel_rfl) rfl (by decide)) rfl _ _ rfl rfl hO4o.out (n : Int) [.int .i64 n] rfl HRD.out (heap_alloc_new _ _) (fun _ h => h.1.2) (by simp; omega) (by unfold maxLen; omega) (by omega) ?_
      intro A5 c5 w5 hown5 hg5 hat5
      have hO5 := Lib.hid (hO4.out.app hown5 hg5 hat5 (fun _ h => h.elim))
      have hB5 := Lib.hid ((hB.alloc (by omega) (.cells #[.int .i64 n] 3)).grown hg5 (by simp; omega) (fun g h => (hlo.out g h).1))
      clear hown5 hg5 hat5 g0
      go_wp2
      go_roundw
      case rel => exact ⟨k + 1, A5, c5, out ++ [(n : Int)], hlt, by go_num, by simp, hB5.out, by rw [Hid, hst.out, hout.out], by have := hO5.out; simpa [Hid] using this⟩
      case measure => simp [intOf]; omega
    · have hkk : k = im.length := by omega
      subst hkk
      go_wp2
      go_ret
      have e := hout.out
      rw [List.take_length] at e
      obtain ⟨_, p1, p2, p3⟩ := hown.out.parts
      have el : out.length = im.length := by rw [e]; simp [lens]
      refine ⟨B, vc, by rw [← el]; rfl, by omega, p2, ?_, hB⟩
      rw [← e]
      exact p3.more (fun _ h => h.1)
set_option maxHeartbeats 4000000 in
set_option maxRecDepth 100000 in
theorem clCheck_any (A A2 A3 : Option Addr) (c c2 c3 n m p : Nat) (im : Img) (l : List Snp) (cl : List Cln) (r : Int) (w : World) (hn : im.length = n) (hm : l.length = m) (hp : cl.length = p) (hr : clE ((im, l), cl) = r) (h1 : SlAt (encSl encSec) w (Bl w.heap.size) A im) (h2 : SlAt encSnp w (Bl w.heap.size) A2 l) (h3 : SlAt encCln w (Bl w.heap.size) A3 cl) (hl1 : n ≤ 100000) (hl2 : m ≤ 9223372036854775807) (hl3 : p ≤ 9223372036854775807) :
    Calls Tryz.prog 17 #[.agg #[.slice A n c, .slice A2 m c2, .slice A3 p c3]] w fun e w' => e = .returned (.int .i64 r) ∧ Below w.heap.size w w' := by
  subst hn hm hp
  have HR := Lib.hid hr; clear hr
  obtain ⟨n0, hn0⟩ : ∃ n0, w.heap.size = n0 := ⟨_, rfl⟩
  obtain ⟨W0, hW0⟩ : ∃ W0, w.alloc (.cells #[.slice A im.length c, .slice A2 l.length c2, .slice A3 cl.length c3] 29) = W0 := ⟨_, rfl⟩
  have hB0 : Below n0 w W0 := by rw [← hW0, ← hn0]; exact ext_alloc (Below.refl _ _)
  have hr0 : W0.heap[n0]? = some (.cells #[.slice A im.length c, .slice A2 l.length c2, .slice A3 cl.length c3] 29 (0, 0)) := by
    rw [← hW0, ← hn0]; exact heap_alloc_new _ _
  obtain ⟨n2, hn2⟩ : ∃ n2, W0.heap.size = n2 := ⟨_, rfl⟩
  have hn02 : n0 + 1 ≤ n2 := by rw [← hn2, ← hW0, ← hn0]; simp
  have up : ∀ {α : Type} {E : Enc α} {A : Option Addr} {l : List α}, SlAt E w (Bl w.heap.size) A l → ∀ W, Below n2 W0 W → SlAt E W (Bl W.heap.size) A l := fun h W hb => by
    rw [hn0] at h
    exact (h.blk (fun g hg => (hb.block g (by have : g < n0 := hg; omega)).trans (hB0.block g hg))).more (fun g hg => by have : g < n0 := hg; have := hb.size; show g < W.heap.size; omega)
  have H1 := Lib.hid (up h1)
  have H2 := Lib.hid (up h2)
  have H3 := Lib.hid (up h3)
  have HC : Hid (∀ W, Below n2 W0 W → W.cell? ⟨n0, 0, none⟩ = some (.slice A im.length c) ∧ W.cell? ⟨n0, 1, none⟩ = some (.slice A2 l.length c2) ∧ W.cell? ⟨n0, 2, none⟩ = some (.slice A3 cl.length c3)) := fun W hb => by
    obtain ⟨a, b, d, _⟩ := blk3 ((hb.block _ (by omega)).trans hr0)
    exact ⟨a, b, d⟩
  have HBW : Hid (∀ W, Below n2 W0 W → Below w.heap.size w W) := fun W hb => by rw [hn0]; exact hB0.trans (hb.mono (by omega))
  obtain ⟨s0, hs0'⟩ : ∃ s0, Hid (snE (im, l) = s0) := ⟨_, rfl⟩
  have HSC := Lib.hid (snCheck_any A A2 c c2 im.length l.length im l s0 W0 rfl rfl hs0'.out (H1.out W0 (Below.refl _ _)) (H2.out W0 (Below.refl _ _)) hl1 hl2)
  have HSE : Hid (clE ((im, l), cl) = if s0 ≠ 0 then s0 else if 16 < cl.length then 6 else clnsE (im, l) [] cl) := by rw [Hid, clE, hs0'.out]
  obtain ⟨p0, p1, p2⟩ := HC.out W0 (Below.refl _ _)
  have HN2 := Lib.hid hn2
  clear h1 h2 h3 hr0 up hB0
  go_enter Tryz.func17, Tryz.ntmps17
  go_wp2_with fail
  refine HSC.out.mono ?_
  rintro e w1 ⟨rfl, hb1⟩
  rw [HN2.out] at hb1
  clear p0 p1 p2 HSC hn2 hW0 hn0
  by_cases hx0 : s0 = 0
  case neg =>
    have hx0' : (s0 != 0) = true := by simp [hx0]
    have hE : Hid (s0 = r) := by rw [Hid, ← HR.out, HSE.out, if_pos hx0]
    clear hx0
    go_wp2_with fail
    go_ret
    exact ⟨ret_int hE.out, HBW.out w1 hb1⟩
  have hx0' : (s0 != 0) = false := by simp [hx0]
  have HX := Lib.hid hx0
  clear hx0
  obtain ⟨p0, p1, p2⟩ := HC.out w1 hb1
  by_cases hl : cl.length ≤ 16
  case neg =>
    have hl' : (16 : Int) < cl.length := by omega
    have hE : Hid ((6 : Int) = r) := by rw [Hid, ← HR.out, HSE.out, if_neg (by rw [HX.out]; decide), if_pos (by omega)]
    clear hl
    go_wp2_with fail
    go_ret
    exact ⟨ret_int hE.out, HBW.out w1 hb1⟩
  have hl' : ¬ (16 : Int) < cl.length := by omega
  have hR2 : Hid (clnsE (im, l) [] cl = r) := by rw [Hid, ← HR.out, HSE.out, if_neg (by rw [HX.out]; decide), if_neg (by omega)]
  obtain ⟨sz, hsz⟩ : ∃ sz, Hid (lens im = sz) := ⟨_, rfl⟩
  have hszl : sz.length ≤ im.length ∧ im.length ≤ sz.length := by rw [← hsz.out]; simp [lens]
  clear HSE HR
  go_wp2_with fail
  clear p0 p1 p2
  go_loopw [20] (fun i wr => ∃ (k : Nat), k ≤ cl.length ∧ i = .int .i64 k ∧ Below n2 W0 wr ∧ Hid (clnsE (im, l) [] (cl.take k) = 0)) (fun i _ => cl.length - (intOf i).toNat)
  case atStart => exact ⟨0, by omega, rfl, hb1, by simp [Hid, clnsE]⟩
  case round =>
    obtain ⟨wo, rfl⟩ : ∃ wo : World, wo = wr := ⟨_, rfl⟩
    obtain ⟨k, hk, rfl, hB, hok⟩ := hrel
    by_cases hlt : k < cl.length
    · obtain ⟨b, off, Dx, dx, rfl, hb, g0, g1, g2, hDx, hd1, hd2, hi1, hi2⟩ := (H3.out wo hB).cln hlt
      have hstep := clnsE_step hok.out hlt
      have hbad := fun h => (clnsE_bad (s := (im, l)) (l := cl) (k := k) h).symm
      have hfi := idx_first (P := isN cl[k].1) hlt (by unfold isN; simp)
      rw [hstep, hR2.out] at hbad
      obtain ⟨x, hx⟩ : ∃ x, cl[k] = x := ⟨_, rfl⟩
      rw [hx] at g0 g1 g2 hDx hd1 hi1 hi2 hstep hbad hfi
      obtain ⟨nm, num, sv⟩ := x
      simp only at g0 g1 g2 hDx hd1 hi1 hi2 hfi
      have HBAD := Lib.hid hbad
      have HSTEP := Lib.hid hstep
      have hki : (k : Int) < cl.length := by omega
      have hnn : (0 : Int) ≤ k := by omega
      obtain ⟨nx, hnx⟩ : ∃ nx, wo.heap.size = nx := ⟨_, rfl⟩
      obtain ⟨W1, hW1⟩ : ∃ W1, wo.alloc (.cells #[.string nm, .int .i64 num, .slice Dx sv.length dx] 87) = W1 := ⟨_, rfl⟩
      have hbx1 : Below nx wo W1 := by rw [← hW1, ← hnx]; exact ext_alloc (Below.refl _ _)
      have hrx : W1.heap[nx]? = some (.cells #[.string nm, .int .i64 num, .slice Dx sv.length dx] 87 (0, 0)) := by rw [← hW1, ← hnx]; exact heap_alloc_new _ _
      obtain ⟨n4, hn4⟩ : ∃ n4, W1.heap.size = n4 := ⟨_, rfl⟩
      have hnx4 : nx < n4 := by rw [← hn4]; exact (Array.getElem?_eq_some_iff.1 hrx).1
      have hn2x : n2 ≤ nx := by rw [← hnx]; have := hB.size; have := HN2.out; omega
      have hB1 : Below n2 W0 W1 := hB.trans (hbx1.mono hn2x)
      have HBX : Hid (∀ W, Below n4 W1 W → Below n2 W0 W) := fun W hb => hB1.trans (hb.mono (by omega))
      have HXX : Hid (∀ W, Below n4 W1 W → (W.cell? ⟨nx, 0, none⟩ = some (.string nm) ∧ W.cell? ⟨nx, 1, none⟩ = some (.int .i64 num) ∧ W.cell? ⟨nx, 2, none⟩ = some (.slice Dx sv.length dx)) ∧ (W.cell? ⟨n0, 0, none⟩ = some (.slice A im.length c) ∧ W.cell? ⟨n0, 1, none⟩ = some (.slice A2 l.length c2) ∧ W.cell? ⟨n0, 2, none⟩ = some (.slice (some ⟨b, off, none⟩) cl.length c3))) := fun W hb => by
        obtain ⟨x0, x1, x2, _⟩ := blk3 ((hb.block _ hnx4).trans hrx)
        exact ⟨⟨x0, x1, x2⟩, HC.out W (HBX.out W hb)⟩
      have HDX : Hid (∀ W, Below n4 W1 W → SlAt encWr W (Bl W.heap.size) Dx sv) := fun W hb => (hDx.blk (fun g hg => (hb.block g (by have : g < wo.heap.size := hg; omega)).trans (hbx1.block g (by have : g < wo.heap.size := hg; omega)))).more (fun g hg => by have : g < wo.heap.size := hg; have := hb.size; show g < W.heap.size; omega)
      have HW1 := Lib.hid hW1
      have HN4 := Lib.hid hn4
      have HNX := Lib.hid hnx
      clear hx hstep hbad hW1 hrx hDx
      go_upto_region 9 with (fail)
      rw [HW1.out]
      clear HW1 hnx g0 g1 g2
      obtain ⟨⟨x0, x1, x2⟩, p0, p1, p2⟩ := HXX.out W1 (Below.refl _ _)
      obtain ⟨q1, hq1⟩ : ∃ q, Hid (nameB nm = q) := ⟨_, rfl⟩
      have HI1 := Lib.hid (isName_any nm W1 q1 hq1.out hi1)
      go_wp2_with fail
      refine HI1.out.mono ?_
      rintro e w3 ⟨rfl, hb3⟩
      rw [HN4.out] at hb3
      clear HI1 x0 x1 x2 p0 p1 p2 hn4
      cases q1 with
      | false =>
        have hE : Hid ((23 : Int) = r) := by
          have e0 : clnE (im, l) (cl.take k) (nm, num, sv) = 23 := by unfold clnE; rw [if_pos hq1.out]
          have := HBAD.out (by rw [e0]; decide)
          rw [Hid, ← this, e0]
        go_wp2_with fail
        go_ret
        exact ⟨ret_int hE.out, HBW.out w3 (HBX.out w3 hb3)⟩
      | true =>
      obtain ⟨iv, hiv⟩ : ∃ i, idxAt (isN nm) cl = i := ⟨_, rfl⟩
      rw [hiv] at hfi
      have HIX := Lib.hid (fun W (hb : Below n4 W1 W) => index37_any (some ⟨b, off, none⟩) c3 cl.length cl nm W rfl (H3.out W (HBX.out W hb)) hl3 iv hiv)
      obtain ⟨hf1, hf2, hf3⟩ := hfi
      have HF3 := Lib.hid hf3
      obtain ⟨⟨x0, x1, x2⟩, p0, p1, p2⟩ := HXX.out w3 hb3
      clear hiv hf3
      go_wp2_with fail
      refine (HIX.out w3 hb3).mono ?_
      rintro e w4 ⟨rfl, hb4⟩
      have hb14 : Below n4 W1 w4 := hb3.trans (hb4.mono (by have := hb3.size; have := HN4.out; omega))
      clear HIX x0 x1 x2 p0 p1 p2
      by_cases hik : iv < k
      case pos =>
        have hE : Hid ((8 : Int) = r) := by
          have e0 : clnE (im, l) (cl.take k) (nm, num, sv) = 8 := by unfold clnE; rw [if_neg (by rw [hq1.out]; decide), if_pos (HF3.out.1 hik)]
          have := HBAD.out (by rw [e0]; decide)
          rw [Hid, ← this, e0]
        go_wp2_with fail
        go_ret
        exact ⟨ret_int hE.out, HBW.out w4 (HBX.out w4 hb14)⟩
      obtain ⟨q3, hq3⟩ : ∃ q, Hid (tkn l num = q) := ⟨_, rfl⟩
      have HTK := Lib.hid (taken37_any A A2 c c2 im.length l.length l num w4 rfl (H2.out w4 (HBX.out w4 hb14)) hl2 q3 hq3.out)
      have hany : Hid ((cl.take k).any (isN nm) = false) := by rw [Hid, ← Bool.not_eq_true]; exact fun h => hik (HF3.out.2 h)
      obtain ⟨⟨x0, x1, x2⟩, p0, p1, p2⟩ := HXX.out w4 hb14
      go_wp2_with fail
      refine HTK.out.mono ?_
      rintro e w5 ⟨rfl, hb5⟩
      have hb15 : Below n4 W1 w5 := hb14.trans (hb5.mono (by have := hb14.size; have := HN4.out; omega))
      clear HTK x0 x1 x2 p0 p1 p2 hik
      cases q3 with
      | false =>
        have hE : Hid ((7 : Int) = r) := by
          have e0 : clnE (im, l) (cl.take k) (nm, num, sv) = 7 := by unfold clnE; rw [if_neg (by rw [hq1.out]; decide), if_neg (by rw [hany.out]; decide), if_pos hq3.out]
          have := HBAD.out (by rw [e0]; decide)
          rw [Hid, ← this, e0]
        go_wp2_with fail
        go_ret
        exact ⟨ret_int hE.out, HBW.out w5 (HBX.out w5 hb15)⟩
      | true =>
      obtain ⟨ev, hev⟩ : ∃ ev, chkS sv sz = ev := ⟨_, rfl⟩
      have hee : Hid (clnE (im, l) (cl.take k) (nm, num, sv) = ev) := by unfold clnE; rw [Hid, if_neg (by rw [hq1.out]; decide), if_neg (by rw [hany.out]; decide), if_neg (by rw [hq3.out]; decide)]; show chkS sv (lens im) = ev; rw [hsz.out]; exact hev
      have HSZ := Lib.hid (fun W (hb : Below n4 W1 W) => clSizes A c im.length im W rfl (H1.out W (HBX.out W hb)) hl1)
      have HCK : Hid (∀ W Z zc, Below n4 W1 W → SlAt encInt W (Bl W.heap.size) Z sz → Calls Tryz.prog 57 #[.slice Dx sv.length dx, .slice Z im.length zc] W fun e w' => e = .returned (.int .i64 ev) ∧ Below W.heap.size W w') := fun W Z zc hb hz => by
        have h := coCheck_any Dx Z dx zc sv sz W (HDX.out W hb) (by unfold maxLen at hd2; omega) hz (by omega) ev hev
        rw [show sz.length = im.length by omega] at h
        exact h
      have hSw : Below n4 W1 w5.drew := hb15.drew
      clear hev
      go_upto_region 15 with (fail)
      go_cut [6] (fun e wx => e = .int .i64 ev ∧ Below n4 W1 wx)
      case first =>
        refine wp_region_U (fun W' => Below n4 W1 W') 8 (by kernel_rfl) ?_
        refine wpAnyU_takeD (i := 0) (v := ?_) rfl rfl (by kernel_rfl) (by kernel_rfl) (by kernel_rfl) (by kernel_rfl) (fun _ _ _ h => h) (by rfl) ?_ hSw ?_
        rotate_left 1
        · intro W9 hW9
          try dsimp only at hW9
          obtain _ := trivial
          go_simp
          try with_reducible rfl
        try simp only [List.setIfInBounds_toArray, List.set_cons_zero, List.set_cons_succ]
        refine wpAnyU_takeD (i := 1) (v := ?_) rfl rfl (by kernel_rfl) (by kernel_rfl) (by kernel_rfl) (by kernel_rfl) (fun _ _ _ h => h) (by rfl) ?_ hSw ?_
        rotate_left 1
        · intro W9 hW9
          try dsimp only at hW9
          obtain ⟨⟨x0, x1, x2⟩, p0, p1, p2⟩ := HXX.out W9 hW9
          go_simp
          try with_reducible rfl
        try simp only [List.setIfInBounds_toArray, List.set_cons_zero, List.set_cons_succ]
        refine wpAnyU_takeD (i := 2) (v := ?_) rfl rfl (by kernel_rfl) (by kernel_rfl) (by kernel_rfl) (by kernel_rfl) (fun _ _ _ h => h) (by rfl) ?_ hSw ?_
        rotate_left 1
        · intro W9 hW9
          try dsimp only at hW9
          obtain _ := trivial
          go_simp
          try with_reducible rfl
        try simp only [List.setIfInBounds_toArray, List.set_cons_zero, List.set_cons_succ]
        refine wpAnyU_takeD (i := 3) (v := ?_) rfl rfl (by kernel_rfl) (by kernel_rfl) (by kernel_rfl) (by kernel_rfl) (fun _ _ _ h => h) (by rfl) ?_ hSw ?_
        rotate_left 1
        · intro W9 hW9
          try dsimp only at hW9
          obtain _ := trivial
          go_simp
          try with_reducible rfl
        try simp only [List.setIfInBounds_toArray, List.set_cons_zero, List.set_cons_succ]
        refine wpAnyU_takeD (i := 4) (v := ?_) rfl rfl (by kernel_rfl) (by kernel_rfl) (by kernel_rfl) (by kernel_rfl) (fun _ _ _ h => h) (by rfl) ?_ hSw ?_
        rotate_left 1
        · intro W9 hW9
          try dsimp only at hW9
          obtain ⟨⟨x0, x1, x2⟩, p0, p1, p2⟩ := HXX.out W9 hW9
          go_simp
          try with_reducible rfl
        try simp only [List.setIfInBounds_toArray, List.set_cons_zero, List.set_cons_succ]
        refine wpAnyU_op (i := 5) (by kernel_rfl) rfl rfl (fun K hK => ?_)
        go_wp2_with fail
        refine ((HSZ.out _ hSw)).mono ?_
        rintro e w6 ⟨Z6, zc6, rfl, z1, z2, z3, hb6⟩
        refine hK.out _ _ (fun _ => (hSw.trans (hb6.mono (by have := hSw.size; have := HN4.out; omega)))) ?_
        clear hK K
        try simp only [Act.put, List.setIfInBounds_toArray, List.set_cons_zero, List.set_cons_succ]
        have hS6 : Below n4 W1 w6 := hSw.trans (hb6.mono (by have := hSw.size; have := HN4.out; omega))
        rw [hsz.out] at z3
        have HZ3 := Lib.hid (z3.more (S' := Bl w6.heap.size) (fun g hg => hg.2))
        clear z3
        refine wpAnyU_op (i := 6) (by kernel_rfl) rfl rfl (fun K hK => ?_)
        go_wp2_with fail
        refine ((HCK.out _ _ _ hS6 HZ3.out)).mono ?_
        rintro e w7 ⟨rfl, hb7⟩
        refine hK.out _ _ (fun _ => (hS6.trans (hb7.mono (by have := hS6.size; have := HN4.out; omega)))) ?_
        clear hK K
        try simp only [Act.put, List.setIfInBounds_toArray, List.set_cons_zero, List.set_cons_succ]
        have hS7 : Below n4 W1 w7 := hS6.trans (hb7.mono (by have := hS6.size; have := HN4.out; omega))
        refine wpAnyU_op (i := 7) (by kernel_rfl) rfl rfl (fun K hK => ?_)
        go_simp
        refine hK.out _ _ (fun _ => hS7) ?_
        clear hK K
        try simp only [Act.put, List.setIfInBounds_toArray, List.set_cons_zero, List.set_cons_succ]
        refine wpAnyU_done (by kernel_rfl) ?_ _
        go_wp2
        go_meet
        exact ⟨rfl, hS7⟩
      case rest =>
        obtain ⟨rfl, hbx⟩ := hcut
        by_cases hv0 : ev = 0
        case neg =>
          have hv0' : (ev != 0) = true := by simp [hv0]
          have hE : Hid (ev = r) := by
            have := HBAD.out (by rw [hee.out]; exact hv0)
            rw [Hid, ← this, hee.out]
          clear hv0
          go_wp2_with fail
          go_ret
          exact ⟨ret_int hE.out, HBW.out _ (HBX.out _ hbx)⟩
        case pos =>
          have hv0' : (ev != 0) = false := by simp [hv0]
          have hok2 : Hid (clnsE (im, l) [] (cl.take (k + 1)) = 0) := by rw [Hid, HSTEP.out, hee.out]; exact hv0
          have hBn := HBX.out _ hbx
          clear hv0
          go_wp2_with fail
          go_roundw
          case rel => exact ⟨k + 1, hlt, by go_num, hBn, hok2.out⟩
          case measure => simp [intOf]; omega
    · have hkk : k = cl.length := by omega
      subst hkk
      have hki : ¬ ((cl.length : Int) < cl.length) := by omega
      have hE : Hid ((0 : Int) = r) := by
        have := hok.out
        rw [List.take_length, hR2.out] at this
        exact this.symm
      go_wp2_with fail
      go_ret
      exact ⟨ret_int hE.out, HBW.out wo hB⟩
end Go.Proofs.YtgndgkjefgjamaaGreat
