/-
  The reference's New and Cost; Few and Same of snapshots.
  The examples of the chapter: plain facts, and how the variables read.
-/
import Derived.Test.YtnkmklnlaepdeaaGreatKw
import Derived.Deep.DeepCutAuto
set_option linter.unusedVariables false
set_option linter.unusedSimpArgs false
set_option linter.unusedSectionVars false
set_option linter.unnecessarySimpa false
namespace Go.Proofs.YtnkmklnlaepdeaaGreat
open Go.RowKit Go.Shelf
attribute [local go_sem] Oper.semAt_some

def fewS (s : Sns) : Bool := (s.2.all fun x => fewL x.2.2) && (decide (s.2.length ≤ 30) && fewI s.1)
theorem fewS_lim {im : Img} {l : List Snp} (h : fewS (im, l) = true) : SnLim im l ∧ l.length ≤ 30 ∧ im.length ≤ 9 := by
  unfold fewS at h
  rw [Bool.and_eq_true, Bool.and_eq_true, decide_eq_true_eq, List.all_eq_true] at h
  obtain ⟨h1, h2, h3⟩ := h
  unfold fewI at h3
  rw [Bool.and_eq_true, decide_eq_true_eq, List.all_eq_true] at h3
  obtain ⟨h3, h4⟩ := h3
  simp only at h1 h2 h3 h4
  refine ⟨⟨by omega, fun r hr => ?_, by omega, fun x hx => ?_⟩, h2, h3⟩
  · have := h4 r hr
    simp only [decide_eq_true_eq] at this
    omega
  · have := h1 x hx
    unfold fewL at this
    rw [Bool.and_eq_true, decide_eq_true_eq, List.all_eq_true] at this
    refine ⟨by omega, fun y hy => ?_⟩
    have := this.2 y hy
    simp only [decide_eq_true_eq] at this
    omega
set_option maxHeartbeats 1000000 in
theorem snFew_any (A A2 : Option Addr) (c c2 n m : Nat) (im : Img) (l : List Snp) (q : Bool) (w : World) (hn : im.length = n) (hm : l.length = m) (hq : fewS (im, l) = q) (h1 : SlAt (encSl encSec) w (Bl w.heap.size) A im) (h2 : SlAt encSnp w (Bl w.heap.size) A2 l) (hl1 : n ≤ 9223372036854775807) (hl2 : m ≤ 9223372036854775807) :
    Calls Tryz.prog 4 #[.agg #[.slice A n c, .slice A2 m c2]] w fun e w' => e = .returned (.bool q) ∧ Below w.heap.size w w' := by
  subst hn hm
  have H1 : Hid (∀ w', Below w.heap.size w w' → SlAt (encSl encSec) w' (Bl w.heap.size) A im) := fun w' hb => h1.below hb
  have H2 : Hid (∀ w', Below w.heap.size w w' → SlAt encSnp w' (Bl w.heap.size) A2 l) := fun w' hb => h2.below hb
  have HQ := Lib.hid hq
  clear h1 h2 hq
  obtain ⟨W0, hW0⟩ : ∃ W0, w.alloc (.cells #[.slice A im.length c, .slice A2 l.length c2] 29) = W0 := ⟨_, rfl⟩
  have hB0 : Below w.heap.size w W0 := by rw [← hW0]; exact ext_alloc (Below.refl _ _)
  have hr0 : W0.heap[w.heap.size]? = some (.cells #[.slice A im.length c, .slice A2 l.length c2] 29 (0, 0)) := by rw [← hW0]; exact heap_alloc_new _ _
  have hs0 : w.heap.size < W0.heap.size := (Array.getElem?_eq_some_iff.1 hr0).1
  obtain ⟨c0, c1, _⟩ := blk2 hr0
  have h2' := H2.out W0 hB0
  have H1' := Lib.hid ((H1.out W0 hB0).more (S' := Bl W0.heap.size) (fun g hg => by have : g < w.heap.size := hg; show g < W0.heap.size; omega))
  clear hr0
  have HW0 := Lib.hid hW0
  clear hW0
  go_enter Tryz.func4, Tryz.ntmps4
  go_wp2
  rw [HW0.out]
  go_loopw [3] (fun i wr => wr = W0 ∧ ∃ k : Nat, k ≤ l.length ∧ k ≤ 50 ∧ i = .int .i64 k ∧ Hid (∀ x ∈ l.take k, fewL x.2.2 = true)) (fun i _ => 50 - (intOf i).toNat)
  case atStart => exact ⟨rfl, 0, by omega, by omega, rfl, by simp [Hid]⟩
  case round =>
    obtain ⟨rfl, k, hk, hk2, rfl, hp⟩ := hrel
    have HP := Lib.hid hp.out; clear hp
    by_cases hlt : k < l.length
    · have hki : (k : Int) < l.length := by omega
      by_cases hlt2 : k < 50
      · obtain ⟨b, off, D, dc, rfl, hb, g0, g1, g2, hD, hn1, hn2, _, _⟩ := h2'.snp hlt
        have hnn : (0 : Int) ≤ k := by omega
        have hki2 : (k : Int) < 50 := by omega
        obtain ⟨p, hpp⟩ : ∃ p, Hid (fewL (l[k]'hlt).2.2 = p) := ⟨_, Lib.hid rfl⟩
        have HFW := Lib.hid (few_any D dc _ l[k].2.2 wr hD (by unfold maxLen at hn2; omega))
        rw [hpp.out] at HFW
        clear hD
        go_wp2_with fail
        refine HFW.out.mono ?_
        rintro e w3 ⟨rfl, rfl⟩
        clear HFW
        cases p with
        | true =>
          go_wp2_with fail
          go_roundw
          case rel =>
            refine ⟨by trivial, k + 1, hlt, hlt2, by go_num, ?_⟩
            intro x hx
            rw [List.take_succ_eq_append_getElem hlt] at hx
            rcases List.mem_append.1 hx with hx | hx
            · exact HP.out x hx
            · rw [List.mem_singleton.1 hx]; exact hpp.out
          case measure => simp [intOf]; omega
        | false =>
          go_wp2_with fail
          go_ret
          refine ⟨ret_bool ?_, hB0⟩
          rw [← HQ.out, eq_comm, fewS, Bool.and_eq_false_iff]
          left
          rw [List.all_eq_false]
          exact ⟨l[k], List.getElem_mem hlt, by rw [hpp.out]; decide⟩
      · have hki2 : ¬ ((k : Int) < 50) := by omega
        have hL : ¬ ((l.length : Int) ≤ 30) := by omega
        go_wp2_with fail
        go_ret
        refine ⟨ret_bool ?_, hB0⟩
        rw [← HQ.out, eq_comm, fewS, Bool.and_eq_false_iff]
        right
        rw [Bool.and_eq_false_iff]
        left
        simp only [decide_eq_false_iff_not]
        omega
    · have hkk : k = l.length := by omega
      subst hkk
      have hall : Hid ((l.all fun x => fewL x.2.2) = true) := by
        have h := HP.out
        rw [List.take_length] at h
        exact List.all_eq_true.2 h
      have hFI := Lib.hid (fewImg_any A c im wr H1'.out hl1)
      by_cases h30 : l.length ≤ 30
      · have h30' : (l.length : Int) ≤ 30 := by omega
        have hqq : Hid (fewI im = q) := by rw [Hid, ← HQ.out, fewS, hall.out, decide_eq_true (by simp only; omega)]; rfl
        rw [hqq.out] at hFI
        clear h30
        go_wp2_with fail
        refine hFI.out.mono ?_
        rintro e w3 ⟨rfl, rfl⟩
        go_wp2_with fail
        go_ret
        exact ⟨rfl, hB0⟩
      · have h30' : ¬ (l.length : Int) ≤ 30 := by omega
        have hqq : Hid (false = q) := by rw [Hid, ← HQ.out, fewS, hall.out, decide_eq_false (by simp only; omega)]; rfl
        clear h30
        go_wp2_with fail
        go_ret
        exact ⟨ret_bool hqq.out, hB0⟩
set_option maxHeartbeats 2000000 in
/-- equal snapshots are found to be the same -/
theorem snSame_true (A A2 A' A2' : Option Addr) (c c2 c' c2' n m : Nat) (im : Img) (l : List Snp) (w : World) (hn : im.length = n) (hm : l.length = m) (h1 : SlAt (encSl encSec) w (Bl w.heap.size) A im) (h2 : SlAt encSnp w (Bl w.heap.size) A2 l) (h1' : SlAt (encSl encSec) w (Bl w.heap.size) A' im) (h2' : SlAt encSnp w (Bl w.heap.size) A2' l) (hl1 : n ≤ 9223372036854775807) (hl2 : m ≤ 9223372036854775807) :
    Calls Tryz.prog 8 #[.agg #[.slice A n c, .slice A2 m c2], .agg #[.slice A' n c', .slice A2' m c2']] w fun e w' => e = .returned (.bool true) ∧ Below w.heap.size w w' := by
  subst hn hm
  obtain ⟨n0, hn0⟩ : ∃ n0, w.heap.size = n0 := ⟨_, rfl⟩
  rw [hn0] at h1 h2 h1' h2' ⊢
  have H2 : Hid (∀ w', Below n0 w w' → SlAt encSnp w' (Bl n0) A2 l) := fun w' hb => h2.below hb
  have H2' : Hid (∀ w', Below n0 w w' → SlAt encSnp w' (Bl n0) A2' l) := fun w' hb => h2'.below hb
  obtain ⟨W0, hW0⟩ : ∃ W0, (w.alloc (.cells #[.slice A im.length c, .slice A2 l.length c2] 29)).alloc (.cells #[.slice A' im.length c', .slice A2' l.length c2'] 29) = W0 := ⟨_, rfl⟩
  have hB0 : Below n0 w W0 := by rw [← hW0, ← hn0]; exact ext_alloc (ext_alloc (Below.refl _ _))
  have hs0 : W0.heap.size = n0 + 2 := by rw [← hW0, ← hn0]; simp
  have hr0 : W0.heap[n0]? = some (.cells #[.slice A im.length c, .slice A2 l.length c2] 29 (0, 0)) := by
    rw [← hW0, ← hn0]; exact (Below.heap_alloc _ _ _ (by simp)).trans (heap_alloc_new _ _)
  have hr1 : W0.heap[n0 + 1]? = some (.cells #[.slice A' im.length c', .slice A2' l.length c2'] 29 (0, 0)) := by
    rw [← hW0, ← hn0]; exact heap_new2 _ _ _
  have HSI := Lib.hid (sameImg07_any A A' c c' _ _ im im W0 (h1.below hB0) (h1'.below hB0) (by omega) (by omega))
  rw [beq_self_eq_true] at HSI
  have HCC : Hid (∀ W, Below W0.heap.size W0 W → (W.cell? ⟨n0, 0, none⟩ = some (.slice A im.length c) ∧ W.cell? ⟨n0, 1, none⟩ = some (.slice A2 l.length c2)) ∧ W.cell? ⟨n0 + 1, 0, none⟩ = some (.slice A' im.length c') ∧ W.cell? ⟨n0 + 1, 1, none⟩ = some (.slice A2' l.length c2')) := fun W hb => by
    obtain ⟨a, b, _⟩ := blk2 ((hb.block n0 (by omega)).trans hr0)
    obtain ⟨a', b', _⟩ := blk2 ((hb.block (n0 + 1) (by omega)).trans hr1)
    exact ⟨⟨a, b⟩, a', b'⟩
  clear h1 h2 h1' h2' hr0 hr1
  have HW0 := Lib.hid hW0
  clear hW0
  obtain ⟨⟨c0, c1⟩, d0, d1⟩ := HCC.out W0 (Below.refl _ _)
  go_enter Tryz.func8, Tryz.ntmps8
  go_upto_region 1 with (fail)
  try rw [HW0.out]
  go_wp2_with fail
  refine HSI.out.mono ?_
  rintro e w1 ⟨rfl, hdr⟩
  have hb1 : Below W0.heap.size W0 w1 := hdr.below _
  clear c0 c1 d0 d1 HSI
  obtain ⟨⟨c0, c1⟩, d0, d1⟩ := HCC.out w1 hb1
  go_wp2_with fail
  clear c0 c1 d0 d1
  go_loopw [5] (fun i wr => ∃ k : Nat, k ≤ l.length ∧ i = .int .i64 k ∧ Below W0.heap.size W0 wr) (fun i _ => l.length - (intOf i).toNat)
  case atStart => exact ⟨0, by omega, rfl, hb1⟩
  case round =>
    obtain ⟨k, hk, rfl, hB⟩ := hrel
    obtain ⟨⟨c0, c1⟩, d0, d1⟩ := HCC.out wr hB
    have hbw : Below n0 w wr := hB0.trans (hB.mono (by omega))
    by_cases hlt : k < l.length
    · obtain ⟨b, off, D, dc, rfl, hb, g0, g1, g2, hD, hd1, hd2, hi1, hi2⟩ := (H2.out wr hbw).snp hlt
      obtain ⟨b', off', D', dc', rfl, hb', g0', g1', g2', hD', hd1', hd2', _, _⟩ := (H2'.out wr hbw).snp hlt
      have hki : (k : Int) < l.length := by omega
      have hnn : (0 : Int) ≤ k := by omega
      have hszr := hB.size
      have hbl : b < wr.heap.size := by have : b < n0 := hb; omega
      have hbl' : b' < wr.heap.size := by have : b' < n0 := hb'; omega
      have hnl : n0 < wr.heap.size := by omega
      have hnl1 : n0 + 1 < wr.heap.size := by omega
      obtain ⟨x, hx⟩ : ∃ x, l[k] = x := ⟨_, rfl⟩
      rw [hx] at g0 g1 g2 hD hd1 hi1 hi2 g0' g1' g2' hD' hd1'
      obtain ⟨num, tm, sv⟩ := x
      simp only at g0 g1 g2 hD hd1 hi1 hi2 g0' g1' g2' hD' hd1'
      have HSM : Hid (∀ W, Below wr.heap.size wr W → Calls Tryz.prog 32 #[.slice D sv.length dc, .slice D' sv.length dc'] W fun e w' => e = .returned (.bool true) ∧ Below W.heap.size W w') := fun W hbW => by
        have hk : ∀ g, Bl n0 g → W.heap[g]? = wr.heap[g]? := fun g hg => hbW.block g (by have : g < n0 := hg; omega)
        exact same_any D D' dc dc' _ _ sv sv W (hD.blk hk) (hD'.blk hk) (by unfold maxLen at hd2; omega) (by unfold maxLen at hd2; omega) true (beq_self_eq_true _)
      clear hx hD hD'
      go_upto_region 6 with (fail)
      go_region
      · obtain ⟨WX, hWX⟩ : ∃ WX, ((wr.alloc (.cells #[.int .i64 num, .int .i64 tm, .slice D sv.length dc] 45)).alloc (.cells #[.int .i64 num, .int .i64 tm, .slice D' sv.length dc'] 45)).drew = WX := ⟨_, rfl⟩
        rw [hWX]
        have hbx : Below wr.heap.size wr WX := by rw [← hWX]; exact (ext_alloc (ext_alloc (Below.refl _ _))).drew
        have ha : WX.heap[wr.heap.size]? = some (.cells #[.int .i64 num, .int .i64 tm, .slice D sv.length dc] 45 (0, 0)) := by rw [← hWX]; exact (Below.heap_alloc _ _ _ (by simp)).trans (heap_alloc_new _ _)
        have ha' : WX.heap[wr.heap.size + 1]? = some (.cells #[.int .i64 num, .int .i64 tm, .slice D' sv.length dc'] 45 (0, 0)) := by rw [← hWX]; exact heap_new2 _ _ _
        obtain ⟨x0, x1, x2, _⟩ := blk3 ha
        obtain ⟨y0, y1, y2, _⟩ := blk3 ha'
        clear hWX ha ha' c0 c1 d0 d1 g0 g1 g2 g0' g1' g2'
        go_wp2_with fail
        refine (HSM.out WX hbx).mono ?_
        rintro e w9 ⟨rfl, hb9⟩
        clear x0 x1 x2 y0 y1 y2
        go_wp2_with fail
        go_roundw
        case rel => exact ⟨k + 1, hlt, by go_num, ext_trans hB (ext_trans hbx hb9)⟩
        case measure => simp [intOf]; omega
      · obtain ⟨WX, hWX⟩ : ∃ WX, ((wr.alloc (.cells #[.int .i64 num, .int .i64 tm, .slice D' sv.length dc'] 45)).alloc (.cells #[.int .i64 num, .int .i64 tm, .slice D sv.length dc] 45)).drew = WX := ⟨_, rfl⟩
        rw [hWX]
        have hbx : Below wr.heap.size wr WX := by rw [← hWX]; exact (ext_alloc (ext_alloc (Below.refl _ _))).drew
        have ha : WX.heap[wr.heap.size]? = some (.cells #[.int .i64 num, .int .i64 tm, .slice D' sv.length dc'] 45 (0, 0)) := by rw [← hWX]; exact (Below.heap_alloc _ _ _ (by simp)).trans (heap_alloc_new _ _)
        have ha' : WX.heap[wr.heap.size + 1]? = some (.cells #[.int .i64 num, .int .i64 tm, .slice D sv.length dc] 45 (0, 0)) := by rw [← hWX]; exact heap_new2 _ _ _
        obtain ⟨x0, x1, x2, _⟩ := blk3 ha
        obtain ⟨y0, y1, y2, _⟩ := blk3 ha'
        clear hWX ha ha' c0 c1 d0 d1 g0 g1 g2 g0' g1' g2'
        go_wp2_with fail
        refine (HSM.out WX hbx).mono ?_
        rintro e w9 ⟨rfl, hb9⟩
        clear x0 x1 x2 y0 y1 y2
        go_wp2_with fail
        go_roundw
        case rel => exact ⟨k + 1, hlt, by go_num, ext_trans hB (ext_trans hbx hb9)⟩
        case measure => simp [intOf]; omega
    · have hkk : k = l.length := by omega
      subst hkk
      go_wp2_with fail
      go_ret
      exact ⟨rfl, hbw⟩
end Go.Proofs.YtnkmklnlaepdeaaGreat

namespace Go.Proofs.YtnkmklnlaepdeaaGreat
open Go.RowKit Go.Shelf
attribute [local go_sem] Oper.semAt_some

instance decWr : DecidableEq Wr := inferInstanceAs (DecidableEq (Int × Int × List Sec))
instance decWrs : DecidableEq (List Wr) := inferInstance
instance decIW : DecidableEq (Int × List Wr) := inferInstance
instance : DecidableEq Snp := inferInstanceAs (DecidableEq (Int × (Int × List Wr)))
instance : DecidableEq Sns := inferInstanceAs (DecidableEq (Img × List Snp))
def imgB (l : List Int) : Img := [l.map sB]
def wrB (s : Int) (l : List Int) : Wr := (0, s, l.map sB)
def aw1 : Sns := (imgB [0, 0, 0, 0], [])
def aw2 : Sns := (imgB [97, 0, 0, 0], [])
def aw3 : Sns := (imgB [97, 0, 0, 0], [(1, 5, [])])
def aw4 : Sns := (imgB [98, 98, 0, 0], [(1, 5, [wrB 0 [97, 0]])])
def aw5 : Sns := (imgB [98, 98, 0, 0], [(1, 5, [wrB 0 [97, 0]]), (2, 6, [])])
def aw6 : Sns := (imgB [98, 99, 0, 0], [(1, 5, [wrB 0 [97, 0]]), (2, 6, [wrB 1 [98]])])
def aw7 : Sns := (imgB [98, 99, 0, 0], [(1, 5, [wrB 0 [97, 0]])])
theorem aw_1 : newS (imgB [0, 0, 0, 0]) = aw1 ∧ sizesN (lens (imgB [0, 0, 0, 0])) = 0 := by decide +kernel
theorem aw_2 : sApply aw1 [wrB 0 [97]] = aw2 ∧ sApplyE aw1 [wrB 0 [97]] = 0 := by decide +kernel
theorem aw_3 : takeS aw2 1 5 = aw3 ∧ takeE aw2 1 5 = 0 := by decide +kernel
theorem aw_4 : sApply aw3 [wrB 0 [98, 98]] = aw4 ∧ sApplyE aw3 [wrB 0 [98, 98]] = 0 := by decide +kernel
theorem aw_5 : takeS aw4 2 6 = aw5 ∧ takeE aw4 2 6 = 0 := by decide +kernel
theorem aw_6 : sApply aw5 [wrB 1 [99]] = aw6 ∧ sApplyE aw5 [wrB 1 [99]] = 0 := by decide +kernel
theorem aw_7 : sDelete aw6 2 = aw7 ∧ findE aw6 2 = 0 := by decide +kernel
theorem aw_c : sCost aw6 = 3 ∧ sCost aw7 = 2 := by decide +kernel
theorem aw_i : (sImage aw6 1 = imgB [97, 0, 0, 0] ∧ findE aw6 1 = 0) ∧ sImage aw6 2 = imgB [98, 98, 0, 0] := by decide +kernel
theorem aw_few : fewS aw1 = true ∧ fewS aw2 = true ∧ fewS aw3 = true ∧ fewS aw4 = true ∧ fewS aw5 = true ∧ fewS aw6 = true ∧ fewS aw7 = true := by decide +kernel
theorem few_sav {im : Img} {l : List Snp} (h : fewS (im, l) = true) : ∀ x ∈ l, x.2.2.length ≤ 1000 := by
  intro x hx
  unfold fewS at h
  rw [Bool.and_eq_true, List.all_eq_true] at h
  have := h.1 x hx
  unfold fewL at this
  rw [Bool.and_eq_true, decide_eq_true_eq] at this
  omega
theorem litS {α : Type} {E : Enc α} {W : World} {S S0 : Nat → Prop} {g : Nat} {T : TypeId} {cs : Array Value} {css : List (List Value)} {l : List α} (hg : W.heap[g]? = some (.cells cs T (0, 0))) (hcs : cs = css.flatten.toArray) (hr : All2 (E.rd W S0) css l) (h0 : ∀ b, S0 b → S b) (h1 : S g) (hn : ¬ S0 g) : SlAt E W S (some ⟨g, 0, none⟩) l := by
  have hsz := All2.sizes hr
  have hlen : css.flatten.length = l.length * E.size := by rw [flatten_len E.size css hsz, hr.length]
  intro hne
  refine ⟨g, 0, rfl, h1, fun i x hx => ?_⟩
  obtain ⟨cs', hc, hr'⟩ := hr.get hx
  refine ⟨cs', fun j u hu => ?_, Enc.more hr' h0⟩
  have hj : j < cs'.length := (List.getElem?_eq_some_iff.1 hu).1
  have hf := flatten_at _ _ _ _ _ _ hsz hc hu
  rw [cell_of_row _ _ _ _ _ _ hg, hcs]
  simp only [List.getElem?_toArray]
  have e : 0 + i * E.size + j = i * E.size + j := by omega
  rw [e]
  exact hf
theorem sB_all {w : World} : ∀ {l : List Int}, (∀ x ∈ l, 0 ≤ x ∧ x < 256) → All2 (encSec.rd w (fun _ => False)) ((l.map sB).map secV) (l.map sB)
  | [], _ => trivial
  | x :: l, h => ⟨⟨rfl, sB_ok (h x (by simp))⟩, sB_all (l := l) (fun y hy => h y (by simp [hy]))⟩
/-- an image of one volume, written out -/
theorem litImg {W : World} {g1 g2 : Nat} {T1 T2 : TypeId} {l : List Int} {n c : Nat} {cs : Array Value} (h1 : W.heap[g1]? = some (.cells cs T1 (0, 0))) (hcs : cs = ((l.map sB).map secV).flatten.toArray) (hr : ∀ x ∈ l, 0 ≤ x ∧ x < 256) (h2 : W.heap[g2]? = some (.cells #[.slice (some ⟨g1, 0, none⟩) n c] T2 (0, 0))) (hn : l.length = n) (hc : n ≤ c ∧ c ≤ maxLen) (hg : g1 ≠ g2) : SlAt (encSl encSec) W (fun g => g = g1 ∨ g = g2) (some ⟨g2, 0, none⟩) (imgB l) := by
  subst hn
  have k1 : SlAt encSec W (fun g => g = g1) (some ⟨g1, 0, none⟩) (l.map sB) := litS (S0 := fun _ => False) h1 hcs (sB_all hr) (fun _ h => h.elim) rfl (fun h => h)
  exact litS (S0 := fun g => g = g1) (css := [[.slice (some ⟨g1, 0, none⟩) l.length c]]) h2 rfl ⟨⟨_, c, by simp, by simpa using hc.1, hc.2, k1⟩, trivial⟩ (fun g hg => Or.inl hg) (Or.inr rfl) (fun e => hg e.symm)
theorem bytes_lit {w : World} {b : Nat} {T : TypeId} {bs : List Int} {cs : Array Value} (hb : w.heap[b]? = some (.cells cs T (0, 0))) (hcs : cs = (bs.map (Value.int .u8)).toArray) (hB : ∀ x ∈ bs, 0 ≤ x ∧ x < 256) : BytesAt (some ⟨b, 0, none⟩) bs w w.heap.size := fun k hk => by
  refine ⟨b, 0, rfl, (Array.getElem?_eq_some_iff.1 hb).1, ?_, hB _ (List.getElem_mem hk)⟩
  rw [cell_of_row _ _ _ _ _ _ hb, hcs]
  simp [hk]
/-- the variable s of the examples: its block, and what it reads -/
def AwI (t : Nat) (B : Option Addr) (vc : Nat) (D : Option Addr) (dc n m : Nat) (s : Sns) (W : World) : Prop :=
  W.heap[t]? = some (.cells #[.slice B n vc, .slice D m dc] 29 (0, 0)) ∧ (s.1.length = n ∧ s.2.length = m) ∧ m ≤ dc ∧ SlAt (encSl encSec) W (fun g => g ≠ t ∧ g < W.heap.size) B s.1 ∧ SlAt encSnp W (fun g => g ≠ t ∧ g < W.heap.size) D s.2
section
variable {t : Nat} {B D : Option Addr} {vc dc n m : Nat} {s : Sns} {W W' : World}
theorem AwI.lt (h : AwI t B vc D dc n m s W) : t < W.heap.size := (Array.getElem?_eq_some_iff.1 h.1).1
theorem AwI.below (h : AwI t B vc D dc n m s W) (hb : Below W.heap.size W W') : AwI t B vc D dc n m s W' := by
  have hl := h.lt
  obtain ⟨h1, h2, h3, h4, h5⟩ := h
  have hs := hb.size
  exact ⟨(hb.block t hl).trans h1, h2, h3, (h4.blk (fun g hg => hb.block g hg.2)).more (fun g hg => ⟨hg.1, by omega⟩), (h5.blk (fun g hg => hb.block g hg.2)).more (fun g hg => ⟨hg.1, by omega⟩)⟩
theorem AwI.img (h : AwI t B vc D dc n m s W) : SlAt (encSl encSec) W (Bl W.heap.size) B s.1 := h.2.2.2.1.more (fun g hg => hg.2)
theorem AwI.its (h : AwI t B vc D dc n m s W) : SlAt encSnp W (Bl W.heap.size) D s.2 := h.2.2.2.2.more (fun g hg => hg.2)
/-- the variable has been stored anew -/
theorem AwI.store {lo mid : Nat} {u0 u1 : Value} (h : SnRet s.1 s.2 B vc D dc mid lo W) (hr : W.heap[t]? = some (.cells #[u0, u1] 29 (0, 0))) (hlo : t < lo) (hn : s.1.length = n ∧ s.2.length = m) : AwI t B vc D dc n m s ((W.setCell ⟨t, 0, none⟩ (.slice B n vc)).setCell ⟨t, 1, none⟩ (.slice D m dc)) := by
  have hr2 := blk2_set hr (.slice B n vc) (.slice D m dc)
  have h2 := (h.set (p := ⟨t, 0, none⟩) hlo (.slice B n vc)).set (p := ⟨t, 1, none⟩) hlo (.slice D m dc)
  obtain ⟨⟨a1, a2, a3⟩, b1, b2, b3⟩ := h2.read
  exact ⟨hr2, hn, by rw [← hn.2]; exact b1, a3.more (fun g hg => ⟨by have := hg.1; omega, hg.2⟩), b3.more (fun g hg => ⟨by have := hg.1; omega, hg.2⟩)⟩
/-- the variable has been made -/
theorem AwI.made {lo mid : Nat} (h : SnRet s.1 s.2 B vc D dc mid lo W) (hn : s.1.length = n ∧ s.2.length = m) (hlo : lo ≤ W.heap.size) : AwI W.heap.size B vc D dc n m s (W.alloc (.cells #[.slice B n vc, .slice D m dc] 29)) := by
  have hb : Below W.heap.size W (W.alloc (.cells #[.slice B n vc, .slice D m dc] 29)) := ext_alloc (Below.refl _ _)
  obtain ⟨⟨a1, a2, a3⟩, b1, b2, b3⟩ := h.read
  exact ⟨heap_alloc_new _ _, hn, by rw [← hn.2]; exact b1, (a3.blk (fun g hg => hb.block g hg.2)).more (fun g hg => ⟨by have := hg.2; omega, by have := hg.2; have := hb.size; omega⟩), (b3.blk (fun g hg => hb.block g hg.2)).more (fun g hg => ⟨by have := hg.2; omega, by have := hg.2; have := hb.size; omega⟩)⟩
end
/-- what Apply, Take, Delete give in the examples -/
def AwR (s : Sns) (n m : Nat) (w : World) (e : Ending) (w' : World) : Prop :=
  ∃ B vc D dc mid, e = .returned (.tuple #[.agg #[.slice B n vc, .slice D m dc], .int .i64 0]) ∧ (s.1.length = n ∧ s.2.length = m) ∧ SnRet s.1 s.2 B vc D dc mid w.heap.size w' ∧ Below w.heap.size w w'
theorem AwR.of {s s' : Sns} {x : Int} {n m : Nat} {w w' : World} {e : Ending} (h : SnRetE s x w e w') (hs : s = s') (hx : x = 0) (hn : s'.1.length = n ∧ s'.2.length = m) : AwR s' n m w e w' := by
  obtain ⟨B, vc, D, dc, mid, he, h1, h2⟩ := h
  subst hs hx
  refine ⟨B, vc, D, dc, mid, ?_, hn, h1, h2⟩
  rw [he, hn.1, hn.2]
section
variable {t : Nat} {B D : Option Addr} {vc dc n m n' m' : Nat} {s s' : Sns} {W : World}
theorem awTake (h : AwI t B vc D dc n m s W) {num tm : Int} (hi : I64 num ∧ I64 tm) (hf : fewS s = true) (ha : takeS s num tm = s' ∧ takeE s num tm = 0) (hn : s'.1.length = n' ∧ s'.2.length = m') :
    Calls Tryz.prog 14 #[.agg #[.slice B n vc, .slice D m dc], .int .i64 num, .int .i64 tm] W (AwR s' n' m' W) := by
  obtain ⟨im, l⟩ := s
  exact (snTake_any B D vc dc n m im l num tm W h.2.1.1 h.2.1.2 h.img h.its (fewS_lim hf).1 hi).mono fun e w' he => AwR.of he ha.1 ha.2 hn
theorem awDelete (h : AwI t B vc D dc n m s W) {num : Int} (hf : fewS s = true) (ha : sDelete s num = s' ∧ findE s num = 0) (hn : s'.1.length = n' ∧ s'.2.length = m') :
    Calls Tryz.prog 22 #[.agg #[.slice B n vc, .slice D m dc], .int .i64 num] W (AwR s' n' m' W) := by
  obtain ⟨im, l⟩ := s
  exact (snDelete_any B D vc dc n m im l num W h.2.1.1 h.2.1.2 h.img h.its (fewS_lim hf).1 (fun y hy => by have := few_sav hf y hy; omega)).mono fun e w' he => AwR.of he ha.1 ha.2 hn
end
end Go.Proofs.YtnkmklnlaepdeaaGreat
