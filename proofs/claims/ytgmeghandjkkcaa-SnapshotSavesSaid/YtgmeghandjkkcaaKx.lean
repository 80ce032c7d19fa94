/-
  The reference's New and Cost; Few and Same of snapshots.
-/
import Derived.Test.YtgmeghandjkkcaaKw
set_option linter.unusedVariables false
set_option linter.unusedSimpArgs false
set_option linter.unusedSectionVars false
set_option linter.unnecessarySimpa false
namespace Go.Proofs.Ytgmeghandjkkcaa
open Go.RowKit Go.Shelf
attribute [local go_sem] Oper.semAt_some

set_option maxHeartbeats 1000000 in
theorem refSnNew_any (A : Option Addr) (c n : Nat) (im : Img) (w : World) (hn : im.length = n) (h1 : SlAt (encSl encSec) w (Bl w.heap.size) A im) (hL : SnLim im []) :
    Calls Try.prog 10 #[.slice A n c] w (SnRetE (newS im) (sizesN (lens im)) w) := by
  subst hn
  have H1 : Hid (∀ w', Below w.heap.size w w' → SlAt (encSl encSec) w' (Bl w.heap.size) A im) := fun w' hb => h1.below hb
  have HLM := Lib.hid hL
  have hl1 := hL.ims
  clear h1 hL
  obtain ⟨n0, hn0⟩ : ∃ n0, w.heap.size = n0 := ⟨_, rfl⟩
  obtain ⟨W0, hW0⟩ : ∃ W0, w.alloc (.cells #[.slice none 0 0, .slice none 0 0] 26) = W0 := ⟨_, rfl⟩
  have hB0 : Below n0 w W0 := by rw [← hW0, ← hn0]; exact ext_alloc (Below.refl _ _)
  have hs0 : n0 < W0.heap.size := by rw [← hW0, ← hn0]; simp
  have hr0 : W0.heap[n0]? = some (.cells #[.slice none 0 0, .slice none 0 0] 26 (0, 0)) := by rw [← hW0, ← hn0]; exact heap_alloc_new _ _
  obtain ⟨s0, hs0'⟩ : ∃ s0, Hid (sizesN (lens im) = s0) := ⟨_, rfl⟩
  have HIC := Lib.hid (refCheck07_any A c im.length im W0 rfl ((H1.out W0 (by rw [hn0]; exact hB0)).more (fun g hg => by have : g < w.heap.size := hg; show g < W0.heap.size; omega)) (by omega) s0 hs0'.out)
  go_enter Try.func10, Try.ntmps10
  go_wp2_with fail
  refine HIC.out.mono ?_
  rintro e w1 ⟨rfl, hb1⟩
  have hbw1 : Below n0 w w1 := hB0.trans (hb1.mono (by omega))
  have hr1 := (hb1.block n0 hs0).trans hr0
  have hz1 := hb1.size
  obtain ⟨q0, q1, qf⟩ := blk2 hr1
  clear HIC hW0 hr0
  by_cases hx0 : s0 = 0
  case neg =>
    have hx0' : (s0 != 0) = true := by simp [hx0]
    have hE : Hid (newS im = zSns) := by rw [Hid, newS, hs0'.out, if_neg hx0]
    clear hx0
    go_wp2_with fail
    have hz := blk2_set hr1 (.slice none 0 0) (.slice none 0 0)
    have hbe := ((hbw1.setCell (p := ⟨n0, 0, none⟩) (Nat.le_refl n0) (.slice none 0 0)).setCell (p := ⟨n0, 1, none⟩) (Nat.le_refl n0) (.slice none 0 0))
    have hse := (SnRet.zero (w := (w1.setCell ⟨n0, 0, none⟩ (.slice none 0 0)).setCell ⟨n0, 1, none⟩ (.slice none 0 0)) (lo := n0) (by simp [World.setCell]; omega))
    change bodyPost _ _ _ _ _ ((w1.setCell ⟨n0, 0, none⟩ (.slice none 0 0)).setCell ⟨n0, 1, none⟩ (.slice none 0 0))
    generalize (w1.setCell ⟨n0, 0, none⟩ (.slice none 0 0)).setCell ⟨n0, 1, none⟩ (.slice none 0 0) = W3 at hz hbe hse ⊢
    obtain ⟨z0, z1, _⟩ := blk2 hz
    refine bodyPost_ret (v := .tuple #[.agg #[(.slice none 0 0), (.slice none 0 0)], .int .i64 s0]) ?_ rfl ?_
    · simp [results, Try.results10, Try.f10, go_sem, z0, z1]
    rw [hE.out, hs0'.out]
    exact ⟨none, 0, none, 0, n0, rfl, by rw [hn0]; exact hse, by rw [hn0]; exact hbe⟩
  have hx0' : (s0 != 0) = false := by simp [hx0]
  have hE : Hid (newS im = (im, [])) := by rw [Hid, newS, hs0'.out, if_pos hx0]
  have HX := Lib.hid hx0
  clear hx0
  have HCP := Lib.hid (refCopy07_any A c im.length im w1 rfl ((H1.out w1 (by rw [hn0]; exact hbw1)).more (fun g hg => by have : g < w.heap.size := hg; show g < w1.heap.size; omega)) (by omega) HLM.out.row)
  go_wp2_with fail
  refine HCP.out.mono ?_
  rintro e w2 ⟨B, vc, rfl, p1, p2, p3, hb2⟩
  have hr2 := (hb2.block n0 (by omega)).trans hr1
  have hbw2 : Below n0 w w2 := hbw1.trans (hb2.mono (by omega))
  have hsn : SnRet im [] B vc none 0 w2.heap.size w1.heap.size w2 := ⟨p1, p2, hb2.size, Nat.le_refl _, p3, OwnX.nil_⟩
  have HSN := Lib.hid hsn
  clear HCP q0 q1 qf p3 hsn
  obtain ⟨q0, q1, qf⟩ := blk2 hr2
  go_wp2_with fail
  have hz := blk2_set hr2 (.slice B im.length vc) (.slice none 0 0)
  have hbe := ((hbw2.setCell (p := ⟨n0, 0, none⟩) (Nat.le_refl n0) (.slice B im.length vc)).setCell (p := ⟨n0, 1, none⟩) (Nat.le_refl n0) (.slice none 0 0))
  have hse := ((HSN.out.set (p := ⟨n0, 0, none⟩) (by show n0 < w1.heap.size; omega) (.slice B im.length vc)).set (p := ⟨n0, 1, none⟩) (by show n0 < w1.heap.size; omega) (.slice none 0 0))
  change bodyPost _ _ _ _ _ ((w2.setCell ⟨n0, 0, none⟩ (.slice B im.length vc)).setCell ⟨n0, 1, none⟩ (.slice none 0 0))
  generalize (w2.setCell ⟨n0, 0, none⟩ (.slice B im.length vc)).setCell ⟨n0, 1, none⟩ (.slice none 0 0) = W3 at hz hbe hse ⊢
  obtain ⟨z0, z1, _⟩ := blk2 hz
  refine bodyPost_ret (v := .tuple #[.agg #[(.slice B im.length vc), (.slice none 0 0)], .int .i64 0]) ?_ rfl ?_
  · simp [results, Try.results10, Try.f10, go_sem, z0, z1]
  rw [hE.out, hs0'.out, HX.out]
  exact ⟨B, vc, none, 0, w2.heap.size, rfl, hse.low (by omega), by rw [hn0]; exact hbe⟩

set_option maxHeartbeats 1000000 in
theorem refSnCost_any (A A2 : Option Addr) (c c2 n m : Nat) (im : Img) (l : List Snp) (w : World) (hn : im.length = n) (hm : l.length = m) (h1 : SlAt (encSl encSec) w (Bl w.heap.size) A im) (h2 : SlAt encSnp w (Bl w.heap.size) A2 l) (hL : SnLim im l) :
    Calls Try.prog 15 #[.agg #[.slice A n c, .slice A2 m c2]] w fun e w' => e = .returned (.int .i64 (sCost (im, l) : Nat)) ∧ Below w.heap.size w w' := by
  subst hn hm
  have H1 : Hid (∀ w', Below w.heap.size w w' → SlAt (encSl encSec) w' (Bl w.heap.size) A im) := fun w' hb => h1.below hb
  have H2 : Hid (∀ w', Below w.heap.size w w' → SlAt encSnp w' (Bl w.heap.size) A2 l) := fun w' hb => h2.below hb
  have HSV := Lib.hid hL.sav
  have hl1 := hL.ims
  have hl2 := hL.its
  clear h1 h2 hL
  obtain ⟨W0, hW0⟩ : ∃ W0, w.alloc (.cells #[.slice A im.length c, .slice A2 l.length c2] 26) = W0 := ⟨_, rfl⟩
  have hB0 : Below w.heap.size w W0 := by rw [← hW0]; exact ext_alloc (Below.refl _ _)
  have hs0 : w.heap.size < W0.heap.size := by rw [← hW0]; simp
  have hr0 : W0.heap[w.heap.size]? = some (.cells #[.slice A im.length c, .slice A2 l.length c2] 26 (0, 0)) := by rw [← hW0]; exact heap_alloc_new _ _
  obtain ⟨r, hr⟩ : ∃ r, Hid (snE (im, l) = r) := ⟨_, rfl⟩
  have HCK := Lib.hid (refSnCheck_any A A2 c c2 im.length l.length im l r W0 rfl rfl hr.out ((H1.out W0 hB0).more (Bl.mono hB0.size)) ((H2.out W0 hB0).more (Bl.mono hB0.size)) hl1 (by omega))
  obtain ⟨c0, c1, _⟩ := blk2 hr0
  go_enter Try.func15, Try.ntmps15
  go_wp2_with fail
  refine HCK.out.mono ?_
  rintro e w1 ⟨rfl, hb1⟩
  have hbw1 : Below w.heap.size w w1 := ext_trans hB0 hb1
  have hrp1 := (hb1.block w.heap.size (by omega)).trans hr0
  clear HCK hW0 hr0 c0 c1
  by_cases hx0 : r = 0
  case neg =>
    have hx0' : (r != 0) = true := by simp [hx0]
    have hE : Hid (sCost (im, l) = 0) := by rw [Hid, sCost, if_pos (by rw [hr.out]; exact hx0)]
    clear hx0
    go_wp2_with fail
    go_ret
    rw [hE.out]
    exact ⟨rfl, hbw1⟩
  have hx0' : (r != 0) = false := by simp [hx0]
  have hE : Hid (sCost (im, l) = (l.map fun x => sectsL x.2.2).sum) := by rw [Hid, sCost, if_neg (by rw [hr.out, hx0]; decide)]
  have hlimS : Hid (∀ k, k ≤ l.length → ((l.take k).map fun x => sectsL x.2.2).sum ≤ 10000000000000000) := fun k hk => by
    have h1 := sum_lim (l := l.take k) (fun x hx => HSV.out x (List.mem_of_mem_take hx))
    have h2 : (l.take k).length * 100000000000 ≤ 100000 * 100000000000 := Nat.mul_le_mul_right _ (by rw [List.length_take]; omega)
    omega
  have HCC : Hid (∀ W, Below w1.heap.size w1 W → W.cell? ⟨w.heap.size, 0, none⟩ = some (.slice A im.length c) ∧ W.cell? ⟨w.heap.size, 1, none⟩ = some (.slice A2 l.length c2)) := fun W hb => by
    obtain ⟨a, b, _⟩ := blk2 ((hb.block _ (by have := hb1.size; omega)).trans hrp1)
    exact ⟨a, b⟩
  clear hx0 hr
  obtain ⟨c0, c1, _⟩ := blk2 hrp1
  go_wp2_with fail
  clear c0 c1
  go_loopw [3, 4] (fun s i wr => ∃ k t : Nat, k ≤ l.length ∧ i = .int .i64 k ∧ s = .int .i64 t ∧ Below w1.heap.size w1 wr ∧ Hid (t = ((l.take k).map fun x => sectsL x.2.2).sum)) (fun _ i _ => l.length - (intOf i).toNat)
  case atStart => exact ⟨0, 0, by omega, rfl, rfl, Below.refl _ _, by simp [Hid]⟩
  case round =>
    obtain ⟨wo, rfl⟩ : ∃ wo : World, wo = wr := ⟨_, rfl⟩
    obtain ⟨k, t, hk, rfl, rfl, hB, ht⟩ := hrel
    have htl : (t : Int) ≤ 10000000000000000 := by have := hlimS.out k hk; rw [ht.out]; omega
    have hBw : Below w.heap.size w wo := ext_trans hbw1 hB
    obtain ⟨c0, c1⟩ := HCC.out wo hB
    by_cases hlt : k < l.length
    · obtain ⟨b, off, D, d, rfl, hb, g0, g1, g2, hD, hd1, hd2, _, _⟩ := (H2.out wo hBw).snp hlt
      have hst := Lib.hid (sum_take hlt)
      have hsl := sects_lim (HSV.out l[k] (List.getElem_mem hlt)).2
      have hsl2 : l[k].2.2.length * 1000000 ≤ 100000 * 1000000 := Nat.mul_le_mul_right _ (HSV.out l[k] (List.getElem_mem hlt)).1
      obtain ⟨x, hx⟩ : ∃ x, l[k] = x := ⟨_, rfl⟩
      rw [hx] at g0 g1 g2 hD hd1 hst hsl hsl2
      obtain ⟨num, tm, sv⟩ := x
      simp only at g0 g1 g2 hD hd1 hst hsl hsl2
      obtain ⟨u, hu⟩ : ∃ u, sectsL sv = u := ⟨_, rfl⟩
      have hki : (k : Int) < l.length := by omega
      have hnn : (0 : Int) ≤ k := by omega
      have HSC := Lib.hid (refSectors_any D d _ sv wo hD (by unfold maxLen at hd2; omega) (by omega))
      rw [hu] at HSC hst hsl
      have hul : (u : Int) ≤ 100000000000 := by omega
      clear hx hu hD
      go_wp2_with fail
      refine HSC.out.mono ?_
      rintro e w3 ⟨rfl, rfl⟩
      clear g0 g1 g2 HSC c0 c1
      go_wp2
      go_roundw
      case rel => exact ⟨k + 1, t + u, hlt, by go_num, by go_num, hB, by rw [Hid, hst.out, ht.out]⟩
      case measure => simp [intOf]; omega
    · have hkk : k = l.length := by omega
      subst hkk
      rw [List.take_length] at ht
      go_wp2
      go_ret
      rw [hE.out, ← ht.out]
      exact ⟨rfl, hBw⟩

def fewS (s : Sns) : Bool := (s.2.all fun x => fewL x.2.2) && (decide (s.2.length ≤ 30) && fewI s.1)
theorem fewS_lim {im : Img} {l : List Snp} (h : fewS (im, l) = true) : SnLim im l ∧ l.length ≤ 30 ∧ im.length ≤ 9 := by
  unfold fewS at h
  rw [Bool.and_eq_true, Bool.and_eq_true, decide_eq_true_eq, List.all_eq_true] at h
  obtain ⟨h1, h2, h3⟩ := h
  unfold fewI at h3
  rw [Bool.and_eq_true, decide_eq_true_eq, List.all_eq_true] at h3
  obtain ⟨h3, h4⟩ := h3
  simp only at h1 h2 h3 h4
  refine ⟨⟨by omega, fun r hr => ?_, by omega, fun x hx => ?_⟩, h2, h3⟩
  · have := h4 r hr
    simp only [decide_eq_true_eq] at this
    omega
  · have := h1 x hx
    unfold fewL at this
    rw [Bool.and_eq_true, decide_eq_true_eq, List.all_eq_true] at this
    refine ⟨by omega, fun y hy => ?_⟩
    have := this.2 y hy
    simp only [decide_eq_true_eq] at this
    omega
set_option maxHeartbeats 1000000 in
theorem snFew_any (A A2 : Option Addr) (c c2 n m : Nat) (im : Img) (l : List Snp) (q : Bool) (w : World) (hn : im.length = n) (hm : l.length = m) (hq : fewS (im, l) = q) (h1 : SlAt (encSl encSec) w (Bl w.heap.size) A im) (h2 : SlAt encSnp w (Bl w.heap.size) A2 l) (hl1 : n ≤ 9223372036854775807) (hl2 : m ≤ 9223372036854775807) :
    Calls Try.prog 7 #[.agg #[.slice A n c, .slice A2 m c2]] w fun e w' => e = .returned (.bool q) ∧ Below w.heap.size w w' := by
  subst hn hm
  have H1 : Hid (∀ w', Below w.heap.size w w' → SlAt (encSl encSec) w' (Bl w.heap.size) A im) := fun w' hb => h1.below hb
  have H2 : Hid (∀ w', Below w.heap.size w w' → SlAt encSnp w' (Bl w.heap.size) A2 l) := fun w' hb => h2.below hb
  have HQ := Lib.hid hq
  clear h1 h2 hq
  obtain ⟨W0, hW0⟩ : ∃ W0, w.alloc (.cells #[.slice A im.length c, .slice A2 l.length c2] 26) = W0 := ⟨_, rfl⟩
  have hB0 : Below w.heap.size w W0 := by rw [← hW0]; exact ext_alloc (Below.refl _ _)
  have hr0 : W0.heap[w.heap.size]? = some (.cells #[.slice A im.length c, .slice A2 l.length c2] 26 (0, 0)) := by rw [← hW0]; exact heap_alloc_new _ _
  have hs0 : w.heap.size < W0.heap.size := (Array.getElem?_eq_some_iff.1 hr0).1
  obtain ⟨c0, c1, _⟩ := blk2 hr0
  have h2' := H2.out W0 hB0
  have H1' := Lib.hid ((H1.out W0 hB0).more (S' := Bl W0.heap.size) (fun g hg => by have : g < w.heap.size := hg; show g < W0.heap.size; omega))
  clear hr0
  have HW0 := Lib.hid hW0
  clear hW0
  go_enter Try.func7, Try.ntmps7
  go_wp2
  rw [HW0.out]
  go_loopw [3] (fun i wr => wr = W0 ∧ ∃ k : Nat, k ≤ l.length ∧ k ≤ 50 ∧ i = .int .i64 k ∧ Hid (∀ x ∈ l.take k, fewL x.2.2 = true)) (fun i _ => 50 - (intOf i).toNat)
  case atStart => exact ⟨rfl, 0, by omega, by omega, rfl, by simp [Hid]⟩
  case round =>
    obtain ⟨rfl, k, hk, hk2, rfl, hp⟩ := hrel
    have HP := Lib.hid hp.out; clear hp
    by_cases hlt : k < l.length
    · have hki : (k : Int) < l.length := by omega
      by_cases hlt2 : k < 50
      · obtain ⟨b, off, D, dc, rfl, hb, g0, g1, g2, hD, hn1, hn2, _, _⟩ := h2'.snp hlt
        have hnn : (0 : Int) ≤ k := by omega
        have hki2 : (k : Int) < 50 := by omega
        obtain ⟨p, hpp⟩ : ∃ p, Hid (fewL (l[k]'hlt).2.2 = p) := ⟨_, Lib.hid rfl⟩
        have HFW := Lib.hid (few_any D dc _ l[k].2.2 wr hD (by unfold maxLen at hn2; omega))
        rw [hpp.out] at HFW
        clear hD
        go_wp2_with fail
        refine HFW.out.mono ?_
        rintro e w3 ⟨rfl, rfl⟩
        clear HFW
        cases p with
        | true =>
          go_wp2_with fail
          go_roundw
          case rel =>
            refine ⟨by trivial, k + 1, hlt, hlt2, by go_num, ?_⟩
            intro x hx
            rw [List.take_succ_eq_append_getElem hlt] at hx
            rcases List.mem_append.1 hx with hx | hx
            · exact HP.out x hx
            · rw [List.mem_singleton.1 hx]; exact hpp.out
          case measure => simp [intOf]; omega
        | false =>
          go_wp2_with fail
          go_ret
          refine ⟨ret_bool ?_, hB0⟩
          rw [← HQ.out, eq_comm, fewS, Bool.and_eq_false_iff]
          left
          rw [List.all_eq_false]
          exact ⟨l[k], List.getElem_mem hlt, by rw [hpp.out]; decide⟩
      · have hki2 : ¬ ((k : Int) < 50) := by omega
        have hL : ¬ ((l.length : Int) ≤ 30) := by omega
        go_wp2_with fail
        go_ret
        refine ⟨ret_bool ?_, hB0⟩
        rw [← HQ.out, eq_comm, fewS, Bool.and_eq_false_iff]
        right
        rw [Bool.and_eq_false_iff]
        left
        simp only [decide_eq_false_iff_not]
        omega
    · have hkk : k = l.length := by omega
      subst hkk
      have hall : Hid ((l.all fun x => fewL x.2.2) = true) := by
        have h := HP.out
        rw [List.take_length] at h
        exact List.all_eq_true.2 h
      have hFI := Lib.hid (fewImg_any A c im wr H1'.out hl1)
      by_cases h30 : l.length ≤ 30
      · have h30' : (l.length : Int) ≤ 30 := by omega
        have hqq : Hid (fewI im = q) := by rw [Hid, ← HQ.out, fewS, hall.out, decide_eq_true (by simp only; omega)]; rfl
        rw [hqq.out] at hFI
        clear h30
        go_wp2_with fail
        refine hFI.out.mono ?_
        rintro e w3 ⟨rfl, rfl⟩
        go_wp2_with fail
        go_ret
        exact ⟨rfl, hB0⟩
      · have h30' : ¬ (l.length : Int) ≤ 30 := by omega
        have hqq : Hid (false = q) := by rw [Hid, ← HQ.out, fewS, hall.out, decide_eq_false (by simp only; omega)]; rfl
        clear h30
        go_wp2_with fail
        go_ret
        exact ⟨ret_bool hqq.out, hB0⟩
set_option maxHeartbeats 2000000 in
/-- equal snapshots are found to be the same -/
theorem snSame_true (A A2 A' A2' : Option Addr) (c c2 c' c2' n m : Nat) (im : Img) (l : List Snp) (w : World) (hn : im.length = n) (hm : l.length = m) (h1 : SlAt (encSl encSec) w (Bl w.heap.size) A im) (h2 : SlAt encSnp w (Bl w.heap.size) A2 l) (h1' : SlAt (encSl encSec) w (Bl w.heap.size) A' im) (h2' : SlAt encSnp w (Bl w.heap.size) A2' l) (hl1 : n ≤ 9223372036854775807) (hl2 : m ≤ 9223372036854775807) :
    Calls Try.prog 11 #[.agg #[.slice A n c, .slice A2 m c2], .agg #[.slice A' n c', .slice A2' m c2']] w fun e w' => e = .returned (.bool true) ∧ Below w.heap.size w w' := by
  subst hn hm
  obtain ⟨n0, hn0⟩ : ∃ n0, w.heap.size = n0 := ⟨_, rfl⟩
  rw [hn0] at h1 h2 h1' h2' ⊢
  have H2 : Hid (∀ w', Below n0 w w' → SlAt encSnp w' (Bl n0) A2 l) := fun w' hb => h2.below hb
  have H2' : Hid (∀ w', Below n0 w w' → SlAt encSnp w' (Bl n0) A2' l) := fun w' hb => h2'.below hb
  obtain ⟨W0, hW0⟩ : ∃ W0, (w.alloc (.cells #[.slice A im.length c, .slice A2 l.length c2] 26)).alloc (.cells #[.slice A' im.length c', .slice A2' l.length c2'] 26) = W0 := ⟨_, rfl⟩
  have hB0 : Below n0 w W0 := by rw [← hW0, ← hn0]; exact ext_alloc (ext_alloc (Below.refl _ _))
  have hs0 : W0.heap.size = n0 + 2 := by rw [← hW0, ← hn0]; simp
  have hr0 : W0.heap[n0]? = some (.cells #[.slice A im.length c, .slice A2 l.length c2] 26 (0, 0)) := by
    rw [← hW0, ← hn0]; exact (Below.heap_alloc _ _ _ (by simp)).trans (heap_alloc_new _ _)
  have hr1 : W0.heap[n0 + 1]? = some (.cells #[.slice A' im.length c', .slice A2' l.length c2'] 26 (0, 0)) := by
    rw [← hW0, ← hn0]; exact heap_new2 _ _ _
  have HSI := Lib.hid (sameImg07_any A A' c c' _ _ im im W0 (h1.below hB0) (h1'.below hB0) (by omega) (by omega))
  rw [beq_self_eq_true] at HSI
  have HCC : Hid (∀ W, Below W0.heap.size W0 W → (W.cell? ⟨n0, 0, none⟩ = some (.slice A im.length c) ∧ W.cell? ⟨n0, 1, none⟩ = some (.slice A2 l.length c2)) ∧ W.cell? ⟨n0 + 1, 0, none⟩ = some (.slice A' im.length c') ∧ W.cell? ⟨n0 + 1, 1, none⟩ = some (.slice A2' l.length c2')) := fun W hb => by
    obtain ⟨a, b, _⟩ := blk2 ((hb.block n0 (by omega)).trans hr0)
    obtain ⟨a', b', _⟩ := blk2 ((hb.block (n0 + 1) (by omega)).trans hr1)
    exact ⟨⟨a, b⟩, a', b'⟩
  clear h1 h2 h1' h2' hr0 hr1
  have HW0 := Lib.hid hW0
  clear hW0
  obtain ⟨⟨c0, c1⟩, d0, d1⟩ := HCC.out W0 (Below.refl _ _)
  go_enter Try.func11, Try.ntmps11
  go_upto_region 1 with (fail)
  try rw [HW0.out]
  go_wp2_with fail
  refine HSI.out.mono ?_
  rintro e w1 ⟨rfl, hdr⟩
  have hb1 : Below W0.heap.size W0 w1 := hdr.below _
  clear c0 c1 d0 d1 HSI
  obtain ⟨⟨c0, c1⟩, d0, d1⟩ := HCC.out w1 hb1
  go_wp2_with fail
  clear c0 c1 d0 d1
  go_loopw [5] (fun i wr => ∃ k : Nat, k ≤ l.length ∧ i = .int .i64 k ∧ Below W0.heap.size W0 wr) (fun i _ => l.length - (intOf i).toNat)
  case atStart => exact ⟨0, by omega, rfl, hb1⟩
  case round =>
    obtain ⟨k, hk, rfl, hB⟩ := hrel
    obtain ⟨⟨c0, c1⟩, d0, d1⟩ := HCC.out wr hB
    have hbw : Below n0 w wr := hB0.trans (hB.mono (by omega))
    by_cases hlt : k < l.length
    · obtain ⟨b, off, D, dc, rfl, hb, g0, g1, g2, hD, hd1, hd2, hi1, hi2⟩ := (H2.out wr hbw).snp hlt
      obtain ⟨b', off', D', dc', rfl, hb', g0', g1', g2', hD', hd1', hd2', _, _⟩ := (H2'.out wr hbw).snp hlt
      have hki : (k : Int) < l.length := by omega
      have hnn : (0 : Int) ≤ k := by omega
      have hszr := hB.size
      have hbl : b < wr.heap.size := by have : b < n0 := hb; omega
      have hbl' : b' < wr.heap.size := by have : b' < n0 := hb'; omega
      have hnl : n0 < wr.heap.size := by omega
      have hnl1 : n0 + 1 < wr.heap.size := by omega
      obtain ⟨x, hx⟩ : ∃ x, l[k] = x := ⟨_, rfl⟩
      rw [hx] at g0 g1 g2 hD hd1 hi1 hi2 g0' g1' g2' hD' hd1'
      obtain ⟨num, tm, sv⟩ := x
      simp only at g0 g1 g2 hD hd1 hi1 hi2 g0' g1' g2' hD' hd1'
      have HSM : Hid (∀ W, Below wr.heap.size wr W → Calls Try.prog 26 #[.slice D sv.length dc, .slice D' sv.length dc'] W fun e w' => e = .returned (.bool true) ∧ Below W.heap.size W w') := fun W hbW => by
        have hk : ∀ g, Bl n0 g → W.heap[g]? = wr.heap[g]? := fun g hg => hbW.block g (by have : g < n0 := hg; omega)
        exact same_any D D' dc dc' _ _ sv sv W (hD.blk hk) (hD'.blk hk) (by unfold maxLen at hd2; omega) (by unfold maxLen at hd2; omega) true (beq_self_eq_true _)
      clear hx hD hD'
      go_upto_region 6 with (fail)
      go_region
      · obtain ⟨WX, hWX⟩ : ∃ WX, ((wr.alloc (.cells #[.int .i64 num, .int .i64 tm, .slice D sv.length dc] 60)).alloc (.cells #[.int .i64 num, .int .i64 tm, .slice D' sv.length dc'] 60)).drew = WX := ⟨_, rfl⟩
        rw [hWX]
        have hbx : Below wr.heap.size wr WX := by rw [← hWX]; exact (ext_alloc (ext_alloc (Below.refl _ _))).drew
        have ha : WX.heap[wr.heap.size]? = some (.cells #[.int .i64 num, .int .i64 tm, .slice D sv.length dc] 60 (0, 0)) := by rw [← hWX]; exact (Below.heap_alloc _ _ _ (by simp)).trans (heap_alloc_new _ _)
        have ha' : WX.heap[wr.heap.size + 1]? = some (.cells #[.int .i64 num, .int .i64 tm, .slice D' sv.length dc'] 60 (0, 0)) := by rw [← hWX]; exact heap_new2 _ _ _
        obtain ⟨x0, x1, x2, _⟩ := blk3 ha
        obtain ⟨y0, y1, y2, _⟩ := blk3 ha'
        clear hWX ha ha' c0 c1 d0 d1 g0 g1 g2 g0' g1' g2'
        go_wp2_with fail
        refine (HSM.out WX hbx).mono ?_
        rintro e w9 ⟨rfl, hb9⟩
        clear x0 x1 x2 y0 y1 y2
        go_wp2_with fail
        go_roundw
        case rel => exact ⟨k + 1, hlt, by go_num, ext_trans hB (ext_trans hbx hb9)⟩
        case measure => simp [intOf]; omega
      · obtain ⟨WX, hWX⟩ : ∃ WX, ((wr.alloc (.cells #[.int .i64 num, .int .i64 tm, .slice D' sv.length dc'] 60)).alloc (.cells #[.int .i64 num, .int .i64 tm, .slice D sv.length dc] 60)).drew = WX := ⟨_, rfl⟩
        rw [hWX]
        have hbx : Below wr.heap.size wr WX := by rw [← hWX]; exact (ext_alloc (ext_alloc (Below.refl _ _))).drew
        have ha : WX.heap[wr.heap.size]? = some (.cells #[.int .i64 num, .int .i64 tm, .slice D' sv.length dc'] 60 (0, 0)) := by rw [← hWX]; exact (Below.heap_alloc _ _ _ (by simp)).trans (heap_alloc_new _ _)
        have ha' : WX.heap[wr.heap.size + 1]? = some (.cells #[.int .i64 num, .int .i64 tm, .slice D sv.length dc] 60 (0, 0)) := by rw [← hWX]; exact heap_new2 _ _ _
        obtain ⟨x0, x1, x2, _⟩ := blk3 ha
        obtain ⟨y0, y1, y2, _⟩ := blk3 ha'
        clear hWX ha ha' c0 c1 d0 d1 g0 g1 g2 g0' g1' g2'
        go_wp2_with fail
        refine (HSM.out WX hbx).mono ?_
        rintro e w9 ⟨rfl, hb9⟩
        clear x0 x1 x2 y0 y1 y2
        go_wp2_with fail
        go_roundw
        case rel => exact ⟨k + 1, hlt, by go_num, ext_trans hB (ext_trans hbx hb9)⟩
        case measure => simp [intOf]; omega
    · have hkk : k = l.length := by omega
      subst hkk
      go_wp2_with fail
      go_ret
      exact ⟨rfl, hbw⟩
end Go.Proofs.Ytgmeghandjkkcaa
