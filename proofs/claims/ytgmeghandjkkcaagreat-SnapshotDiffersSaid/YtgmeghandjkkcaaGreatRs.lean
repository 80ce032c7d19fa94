/-
  The reference's Find, find, Take of snapshots.
-/
import Derived.Test.YtgmeghandjkkcaaGreatSz
import Derived.Test.YtgmeghandjkkcaaGreatKw
set_option linter.unusedVariables false
set_option linter.unusedSimpArgs false
set_option linter.unusedSectionVars false
set_option linter.unnecessarySimpa false
namespace Go.Proofs.YtgmeghandjkkcaaGreat
open Go.RowKit Go.Shelf
attribute [local go_sem] Oper.semAt_some

set_option maxHeartbeats 1000000 in
theorem refFind0_any (A A2 : Option Addr) (c c2 n m : Nat) (im : Img) (l : List Snp) (num r : Int) (w : World) (hn : im.length = n) (hm : l.length = m) (hr : idxAt (numIs num) l = r) (h2 : SlAt encSnp w (Bl w.heap.size) A2 l) (hl2 : m ≤ 9223372036854775807) :
    Calls Tryz.prog 79 #[.agg #[.slice A n c, .slice A2 m c2], .int .i64 num] w fun e w' => e = .returned (.int .i64 r) ∧ Below w.heap.size w w' := by
  subst hn hm
  have HR := Lib.hid hr
  have H2 : Hid (∀ w', Below w.heap.size w w' → SlAt encSnp w' (Bl w.heap.size) A2 l) := fun w' hb => h2.below hb
  clear h2 hr
  obtain ⟨W0, hW0⟩ : ∃ W0, w.alloc (.cells #[.slice A im.length c, .slice A2 l.length c2] 26) = W0 := ⟨_, rfl⟩
  have hB0 : Below w.heap.size w W0 := by rw [← hW0]; exact ext_alloc (Below.refl _ _)
  have hr0 : W0.heap[w.heap.size]? = some (.cells #[.slice A im.length c, .slice A2 l.length c2] 26 (0, 0)) := by rw [← hW0]; exact heap_alloc_new _ _
  obtain ⟨c0, c1, _⟩ := blk2 hr0
  have h2' := H2.out W0 hB0
  clear hr0
  have HW0 := Lib.hid hW0
  clear hW0
  go_enter Tryz.func79, Tryz.ntmps79
  go_wp2
  rw [HW0.out]
  go_loopw [5] (fun i wr => wr = W0 ∧ ∃ k : Nat, k ≤ l.length ∧ i = .int .i64 k ∧ Hid (idxAt (numIs num) l = (idxAt (numIs num) (l.drop k)) + (if 0 ≤ idxAt (numIs num) (l.drop k) then (k : Int) else 0))) (fun i _ => l.length - (intOf i).toNat)
  case atStart => exact ⟨rfl, 0, by omega, rfl, by simp [Hid]⟩
  case round =>
    obtain ⟨rfl, k, hk, rfl, hz⟩ := hrel
    by_cases hlt : k < l.length
    · have hki : (k : Int) < l.length := by omega
      have hnn : (0 : Int) ≤ k := by omega
      obtain ⟨b, off, D, dc, rfl, hb, g0, g1, g2, hD, hn1, hn2, _, _⟩ := h2'.snp hlt
      have hst := idxAt_drop (P := numIs num) hlt
      obtain ⟨x, hx⟩ : ∃ x, (l[k]'hlt).1 = x := ⟨_, rfl⟩
      have hP : numIs num (l[k]'hlt) = (x == num) := by rw [numIs, hx]
      rw [hP] at hst
      rw [hx] at g0
      have HST := Lib.hid hst
      clear hst hD hn1 hn2 hP hx
      by_cases hxn : x = num
      · have hq : (x == num) = true := by simp [hxn]
        have hE : Hid (idxAt (numIs num) l = k) := by
          rw [Hid, hz.out, HST.out, hq]; simp
        clear hxn
        go_wp2_with fail
        go_ret
        exact ⟨ret_int (by rw [← HR.out, hE.out]), hB0⟩
      · have hq : (x == num) = false := by simp [hxn]
        have hE : Hid (idxAt (numIs num) l = (idxAt (numIs num) (l.drop (k + 1))) + (if 0 ≤ idxAt (numIs num) (l.drop (k + 1)) then ((k + 1 : Nat) : Int) else 0)) := by
          rw [Hid, hz.out, HST.out, hq, if_neg (by decide : ¬ false = true)]
          rcases idxAt_cases (numIs num) (l.drop (k + 1)) with hp | hp
          · rw [hp]; simp
          · rw [if_pos hp, if_pos hp, if_pos (by omega)]; omega
        clear hxn
        go_wp2_with fail
        go_roundw
        case rel => exact ⟨by trivial, k + 1, hlt, by go_num, hE.out⟩
        case measure => simp [intOf]; omega
    · have hkk : k = l.length := by omega
      subst hkk
      have hE : Hid (idxAt (numIs num) l = -1) := by rw [Hid, hz.out, List.drop_length]; simp [idxAt]
      go_wp2_with fail
      go_ret
      exact ⟨ret_int (by rw [← HR.out, hE.out]), hB0⟩
set_option maxHeartbeats 1000000 in
theorem refFind_any (A A2 : Option Addr) (c c2 n m : Nat) (im : Img) (l : List Snp) (num : Int) (w : World) (hn : im.length = n) (hm : l.length = m) (h1 : SlAt (encSl encSec) w (Bl w.heap.size) A im) (h2 : SlAt encSnp w (Bl w.heap.size) A2 l) (hl1 : n ≤ 100000) (hl2 : m ≤ 9223372036854775807) :
    Calls Tryz.prog 47 #[.agg #[.slice A n c, .slice A2 m c2], .int .i64 num] w fun e w' => e = .returned (.tuple #[.int .i64 (findN (im, l) num : Nat), .int .i64 (findE (im, l) num)]) ∧ Below w.heap.size w w' := by
  subst hn hm
  have H1 : Hid (∀ w', Below w.heap.size w w' → SlAt (encSl encSec) w' (Bl w.heap.size) A im) := fun w' hb => h1.below hb
  have H2 : Hid (∀ w', Below w.heap.size w w' → SlAt encSnp w' (Bl w.heap.size) A2 l) := fun w' hb => h2.below hb
  clear h1 h2
  obtain ⟨W0, hW0⟩ : ∃ W0, w.alloc (.cells #[.slice A im.length c, .slice A2 l.length c2] 26) = W0 := ⟨_, rfl⟩
  have hB0 : Below w.heap.size w W0 := by rw [← hW0]; exact ext_alloc (Below.refl _ _)
  have hr0 : W0.heap[w.heap.size]? = some (.cells #[.slice A im.length c, .slice A2 l.length c2] 26 (0, 0)) := by rw [← hW0]; exact heap_alloc_new _ _
  have hs0 : w.heap.size < W0.heap.size := (Array.getElem?_eq_some_iff.1 hr0).1
  obtain ⟨r, hr⟩ : ∃ r, Hid (snE (im, l) = r) := ⟨_, rfl⟩
  have HCK := Lib.hid (refSnCheck_any A A2 c c2 im.length l.length im l r W0 rfl rfl hr.out ((H1.out W0 hB0).more (Bl.mono hB0.size)) ((H2.out W0 hB0).more (Bl.mono hB0.size)) hl1 hl2)
  obtain ⟨c0, c1, _⟩ := blk2 hr0
  go_enter Tryz.func47, Tryz.ntmps47
  go_wp2_with fail
  refine HCK.out.mono ?_
  rintro e w1 ⟨rfl, hb1⟩
  have hbw1 : Below w.heap.size w w1 := ext_trans hB0 hb1
  have hrp1 := (hb1.block w.heap.size (by omega)).trans hr0
  clear HCK hW0 hr0 c0 c1
  by_cases hx0 : r = 0
  case neg =>
    have hx0' : (r != 0) = true := by simp [hx0]
    have hE : Hid (findE (im, l) num = r) := by rw [Hid, findE, hr.out, if_pos hx0]
    have hN : Hid (findN (im, l) num = 0) := by rw [Hid, findN, if_neg (by rw [hE.out]; exact hx0)]
    clear hx0
    go_wp2_with fail
    go_ret2
    rw [hE.out, hN.out]
    exact ⟨rfl, hbw1⟩
  have hx0' : (r != 0) = false := by simp [hx0]
  have HOK : Hid (snE (im, l) = 0) := by rw [Hid, hr.out, hx0]
  clear hx0 hr
  obtain ⟨i, hi⟩ : ∃ i, Hid (idxAt (numIs num) l = i) := ⟨_, rfl⟩
  have HIX := Lib.hid (refFind0_any A A2 c c2 im.length l.length im l num i w1 rfl rfl hi.out ((H2.out w1 hbw1).more (Bl.mono hbw1.size)) hl2)
  obtain ⟨c0, c1, _⟩ := blk2 hrp1
  go_wp2_with fail
  refine HIX.out.mono ?_
  rintro e w2 ⟨rfl, hb2⟩
  have hbw2 : Below w.heap.size w w2 := ext_trans hbw1 hb2
  have hfi := idxAt_find (numIs num) l
  rw [hi.out] at hfi
  clear HIX c0 c1
  cases hq : l.findIdx? (numIs num) with
  | none =>
    rw [hq] at hfi
    have hE : Hid (findE (im, l) num = 7) := by
      have : findI l num = none := hq
      rw [Hid, findE, HOK.out, if_neg (by decide)]; show (if (findI l num).isNone = true then (7 : Int) else 0) = 7; rw [this]; rfl
    have hN : Hid (findN (im, l) num = 0) := by rw [Hid, findN, if_neg (by rw [hE.out]; decide)]
    simp only at hfi
    subst hfi
    clear hq
    go_wp2_with fail
    go_ret2
    rw [hE.out, hN.out]
    exact ⟨rfl, hbw2⟩
  | some k =>
    rw [hq] at hfi
    have hE : Hid (findE (im, l) num = 0) := by
      have : findI l num = some k := hq
      rw [Hid, findE, HOK.out, if_neg (by decide)]; show (if (findI l num).isNone = true then (7 : Int) else 0) = 0; rw [this]; rfl
    have hN : Hid (findN (im, l) num = k) := by
      have : findI l num = some k := hq
      rw [Hid, findN, if_pos hE.out]; show (findI l num).getD 0 = k; rw [this]; rfl
    simp only at hfi
    subst hfi
    have hkn : ¬ (k : Int) < 0 := by omega
    clear hq
    go_wp2_with fail
    go_ret2
    rw [hE.out, hN.out]
    exact ⟨rfl, hbw2⟩
theorem last_at {l : List Snp} {j : Nat} (h : l.length = j + 1) : lastN l = (l[j]'(by omega)).1 ∧ lastT l = (l[j]'(by omega)).2.1 := by
  have h1 := lastN_take (l := l) (k := j) (by omega)
  have h2 : l.take (j + 1) = l := by rw [← h, List.take_length]
  rw [h2] at h1
  exact h1
theorem snE_full {im : Img} {l : List Snp} (h : snE (im, l) = 0) : SnFull l := fun x hx y hy => by
  obtain ⟨h1, h2⟩ := snE_ok h
  exact (fits_ok h1 (h2 x hx y hy)).2.2.1
set_option maxHeartbeats 4000000 in
set_option maxRecDepth 100000 in
theorem refTake_any (A A2 : Option Addr) (c c2 n m : Nat) (im : Img) (l : List Snp) (num tm : Int) (w : World) (hn : im.length = n) (hm : l.length = m) (h1 : SlAt (encSl encSec) w (Bl w.heap.size) A im) (h2 : SlAt encSnp w (Bl w.heap.size) A2 l) (hL : SnLim im l) (hi : I64 num ∧ I64 tm) :
    Calls Tryz.prog 13 #[.agg #[.slice A n c, .slice A2 m c2], .int .i64 num, .int .i64 tm] w (SnRetE (takeS (im, l) num tm) (takeE (im, l) num tm) w) := by
  subst hn hm
  have H1 : Hid (∀ w', Below w.heap.size w w' → SlAt (encSl encSec) w' (Bl w.heap.size) A im) := fun w' hb => h1.below hb
  have H2 : Hid (∀ w', Below w.heap.size w w' → SlAt encSnp w' (Bl w.heap.size) A2 l) := fun w' hb => h2.below hb
  have HLM := Lib.hid hL
  have hl1 := hL.ims
  have hl2 := hL.its
  have hnum := Lib.hid hi.1
  have htm := Lib.hid hi.2
  clear h1 h2 hL hi
  obtain ⟨n0, hn0⟩ : ∃ n0, w.heap.size = n0 := ⟨_, rfl⟩
  obtain ⟨W0, hW0⟩ : ∃ W0, (w.alloc (.cells #[.slice A im.length c, .slice A2 l.length c2] 26)).alloc (.cells #[.slice none 0 0, .slice none 0 0] 26) = W0 := ⟨_, rfl⟩
  have hB0 : Below n0 w W0 := by rw [← hW0, ← hn0]; exact ext_alloc (ext_alloc (Below.refl _ _))
  have hs0 : n0 + 1 < W0.heap.size := by rw [← hW0, ← hn0]; simp
  have hr0 : W0.heap[n0]? = some (.cells #[.slice A im.length c, .slice A2 l.length c2] 26 (0, 0)) := by rw [← hW0, ← hn0]; exact (Below.heap_alloc _ _ _ (by simp)).trans (heap_alloc_new _ _)
  have hrz0 : W0.heap[n0 + 1]? = some (.cells #[.slice none 0 0, .slice none 0 0] 26 (0, 0)) := by rw [← hW0, ← hn0]; exact heap_new2 _ _ _
  have hBL : Hid (∀ (W : World) g, Below n0 w W → Bl w.heap.size g → Bl W.heap.size g) := fun W g hb hg => by have := hb.size; have h5 : g < w.heap.size := hg; show g < W.heap.size; omega
  obtain ⟨r, hr⟩ : ∃ r, Hid (snE (im, l) = r) := ⟨_, rfl⟩
  have HCK := Lib.hid (refSnCheck_any A A2 c c2 im.length l.length im l r W0 rfl rfl hr.out ((H1.out W0 (by rw [hn0]; exact hB0)).more (fun g hg => hBL.out W0 g hB0 hg)) ((H2.out W0 (by rw [hn0]; exact hB0)).more (fun g hg => hBL.out W0 g hB0 hg)) hl1 (by omega))
  obtain ⟨c0, c1, _⟩ := blk2 hr0
  go_enter Tryz.func13, Tryz.ntmps13
  go_wp2_with fail
  refine HCK.out.mono ?_
  rintro e w5 ⟨rfl, hb1⟩
  have hbw3 : Below n0 w w5 := hB0.trans (hb1.mono (by omega))
  have hz1 := hb1.size
  have hrp := (hb1.block n0 (by omega)).trans hr0
  have hrz3 := (hb1.block (n0 + 1) (by omega)).trans hrz0
  clear HCK hW0 c0 c1 hr0 hrz0
  by_cases hx0 : r = 0
  case neg =>
    have hx0' : (r != 0) = true := by simp [hx0]
    have hE : Hid (takeE (im, l) num tm = r) := by rw [Hid, takeE, hr.out, if_pos hx0]
    have hS : Hid (takeS (im, l) num tm = zSns) := by rw [Hid, takeS, if_neg (by rw [hE.out]; exact hx0)]
    obtain ⟨q0, q1, qf⟩ := blk2 hrz3
    clear hx0
    go_wp2_with fail
    have hz := blk2_set hrz3 (.slice none 0 0) (.slice none 0 0)
    have hbe := ((hbw3.setCell (p := ⟨n0 + 1, 0, none⟩) (by show n0 ≤ n0 + 1; omega) (.slice none 0 0)).setCell (p := ⟨n0 + 1, 1, none⟩) (by show n0 ≤ n0 + 1; omega) (.slice none 0 0))
    have hse := (SnRet.zero (w := (w5.setCell ⟨n0 + 1, 0, none⟩ (.slice none 0 0)).setCell ⟨n0 + 1, 1, none⟩ (.slice none 0 0)) (lo := n0) (by simp [World.setCell]; omega))
    change bodyPost _ _ _ _ _ ((w5.setCell ⟨(n0 + 1), 0, none⟩ (.slice none 0 0)).setCell ⟨(n0 + 1), 1, none⟩ (.slice none 0 0))
    generalize (w5.setCell ⟨(n0 + 1), 0, none⟩ (.slice none 0 0)).setCell ⟨(n0 + 1), 1, none⟩ (.slice none 0 0) = W3 at hz hbe hse ⊢
    obtain ⟨z0, z1, _⟩ := blk2 hz
    refine bodyPost_ret (v := .tuple #[.agg #[(.slice none 0 0), (.slice none 0 0)], .int .i64 r]) ?_ rfl ?_
    · simp [results, Tryz.results13, Tryz.f13, go_sem, z0, z1]
    rw [hE.out, hS.out]
    exact ⟨none, 0, none, 0, n0, rfl, by rw [hn0]; exact hse, by rw [hn0]; exact hbe⟩
  have hx0' : (r != 0) = false := by simp [hx0]
  have HOK : Hid (snE (im, l) = 0) := by rw [Hid, hr.out, hx0]
  have hTE : Hid (takeE (im, l) num tm = if inT num = false then 2 else if num ≤ lastN l then 8 else if inT tm = false ∨ tm < lastT l then 24 else if 1024 ≤ l.length then 11 else 0) := by rw [Hid, takeE, HOK.out, if_neg (by decide)]
  clear hx0 hr
  obtain ⟨c0, c1, _⟩ := blk2 hrp
  by_cases e1 : num < 0
  · have hE : Hid (takeE (im, l) num tm = 2) := (by rw [Hid, hTE.out, if_pos (by simp [inT]; omega)])
    have hS : Hid (takeS (im, l) num tm = zSns) := by rw [Hid, takeS, if_neg (by rw [hE.out]; decide)]
    obtain ⟨q0, q1, qf⟩ := blk2 hrz3
    go_wp2_with fail
    have hz := blk2_set hrz3 (.slice none 0 0) (.slice none 0 0)
    have hbe := ((hbw3.setCell (p := ⟨n0 + 1, 0, none⟩) (by show n0 ≤ n0 + 1; omega) (.slice none 0 0)).setCell (p := ⟨n0 + 1, 1, none⟩) (by show n0 ≤ n0 + 1; omega) (.slice none 0 0))
    have hse := (SnRet.zero (w := (w5.setCell ⟨n0 + 1, 0, none⟩ (.slice none 0 0)).setCell ⟨n0 + 1, 1, none⟩ (.slice none 0 0)) (lo := n0) (by simp [World.setCell]; omega))
    change bodyPost _ _ _ _ _ ((w5.setCell ⟨(n0 + 1), 0, none⟩ (.slice none 0 0)).setCell ⟨(n0 + 1), 1, none⟩ (.slice none 0 0))
    generalize (w5.setCell ⟨(n0 + 1), 0, none⟩ (.slice none 0 0)).setCell ⟨(n0 + 1), 1, none⟩ (.slice none 0 0) = W3 at hz hbe hse ⊢
    obtain ⟨z0, z1, _⟩ := blk2 hz
    refine bodyPost_ret (v := .tuple #[.agg #[(.slice none 0 0), (.slice none 0 0)], .int .i64 2]) ?_ rfl ?_
    · simp [results, Tryz.results13, Tryz.f13, go_sem, z0, z1]
    rw [hE.out, hS.out]
    exact ⟨none, 0, none, 0, n0, rfl, by rw [hn0]; exact hse, by rw [hn0]; exact hbe⟩
  by_cases e2 : 1073741824 < num
  · have hE : Hid (takeE (im, l) num tm = 2) := (by rw [Hid, hTE.out, if_pos (by simp [inT]; omega)])
    have hS : Hid (takeS (im, l) num tm = zSns) := by rw [Hid, takeS, if_neg (by rw [hE.out]; decide)]
    obtain ⟨q0, q1, qf⟩ := blk2 hrz3
    go_wp2_with fail
    have hz := blk2_set hrz3 (.slice none 0 0) (.slice none 0 0)
    have hbe := ((hbw3.setCell (p := ⟨n0 + 1, 0, none⟩) (by show n0 ≤ n0 + 1; omega) (.slice none 0 0)).setCell (p := ⟨n0 + 1, 1, none⟩) (by show n0 ≤ n0 + 1; omega) (.slice none 0 0))
    have hse := (SnRet.zero (w := (w5.setCell ⟨n0 + 1, 0, none⟩ (.slice none 0 0)).setCell ⟨n0 + 1, 1, none⟩ (.slice none 0 0)) (lo := n0) (by simp [World.setCell]; omega))
    change bodyPost _ _ _ _ _ ((w5.setCell ⟨(n0 + 1), 0, none⟩ (.slice none 0 0)).setCell ⟨(n0 + 1), 1, none⟩ (.slice none 0 0))
    generalize (w5.setCell ⟨(n0 + 1), 0, none⟩ (.slice none 0 0)).setCell ⟨(n0 + 1), 1, none⟩ (.slice none 0 0) = W3 at hz hbe hse ⊢
    obtain ⟨z0, z1, _⟩ := blk2 hz
    refine bodyPost_ret (v := .tuple #[.agg #[(.slice none 0 0), (.slice none 0 0)], .int .i64 2]) ?_ rfl ?_
    · simp [results, Tryz.results13, Tryz.f13, go_sem, z0, z1]
    rw [hE.out, hS.out]
    exact ⟨none, 0, none, 0, n0, rfl, by rw [hn0]; exact hse, by rw [hn0]; exact hbe⟩
  have hn1 : inT num = true := by simp [inT]; omega
  have HCP := Lib.hid (refCopy36_any A A2 c c2 im.length l.length im l w5 rfl rfl ((H1.out w5 (by rw [hn0]; exact hbw3)).more (fun g hg => hBL.out w5 g hbw3 hg)) ((H2.out w5 (by rw [hn0]; exact hbw3)).more (fun g hg => hBL.out w5 g hbw3 hg)) HLM.out (snE_full HOK.out))
  have H2w := H2.out w5 (by rw [hn0]; exact hbw3)
  by_cases hpos : (0 : Int) < l.length
  · have hjj : ∃ j : Nat, Hid (l.length = j + 1) := ⟨l.length - 1, by show l.length = _; omega⟩
    obtain ⟨j, hj⟩ := hjj
    have hlast := last_at hj.out
    have hjl : j < l.length := by rw [hj.out]; omega
    obtain ⟨b, off, D0, d0, rfl, hb, y0, y1, _, _, _, _, _, _⟩ := H2w.snp hjl
    obtain ⟨ln, hln⟩ : ∃ x, (l[j]'hjl).1 = x := ⟨_, rfl⟩
    obtain ⟨lt, hlt⟩ : ∃ x, (l[j]'hjl).2.1 = x := ⟨_, rfl⟩
    rw [hln] at y0
    rw [hlt] at y1
    have h1 : lastN l = ln := hlast.1.trans hln
    have h2 : lastT l = lt := hlast.2.trans hlt
    rw [h1, h2] at hTE
    have e5 : (l.length : Int) - 1 = j := by have := hj.out; omega
    have hji : (j : Int) < l.length := by omega
    clear hlast h1 h2 hln hlt
    by_cases n1 : num ≤ ln
    · have hE : Hid (takeE (im, l) num tm = 8) := (by rw [Hid, hTE.out, if_neg (by simp [hn1]), if_pos n1])
      have hS : Hid (takeS (im, l) num tm = zSns) := by rw [Hid, takeS, if_neg (by rw [hE.out]; decide)]
      obtain ⟨q0, q1, qf⟩ := blk2 hrz3
      go_wp2_with fail
      have hz := blk2_set hrz3 (.slice none 0 0) (.slice none 0 0)
      have hbe := ((hbw3.setCell (p := ⟨n0 + 1, 0, none⟩) (by show n0 ≤ n0 + 1; omega) (.slice none 0 0)).setCell (p := ⟨n0 + 1, 1, none⟩) (by show n0 ≤ n0 + 1; omega) (.slice none 0 0))
      have hse := (SnRet.zero (w := (w5.setCell ⟨n0 + 1, 0, none⟩ (.slice none 0 0)).setCell ⟨n0 + 1, 1, none⟩ (.slice none 0 0)) (lo := n0) (by simp [World.setCell]; omega))
      change bodyPost _ _ _ _ _ ((w5.setCell ⟨(n0 + 1), 0, none⟩ (.slice none 0 0)).setCell ⟨(n0 + 1), 1, none⟩ (.slice none 0 0))
      generalize (w5.setCell ⟨(n0 + 1), 0, none⟩ (.slice none 0 0)).setCell ⟨(n0 + 1), 1, none⟩ (.slice none 0 0) = W3 at hz hbe hse ⊢
      obtain ⟨z0, z1, _⟩ := blk2 hz
      refine bodyPost_ret (v := .tuple #[.agg #[(.slice none 0 0), (.slice none 0 0)], .int .i64 8]) ?_ rfl ?_
      · simp [results, Tryz.results13, Tryz.f13, go_sem, z0, z1]
      rw [hE.out, hS.out]
      exact ⟨none, 0, none, 0, n0, rfl, by rw [hn0]; exact hse, by rw [hn0]; exact hbe⟩
    by_cases t1 : tm < 0
    · have hE : Hid (takeE (im, l) num tm = 24) := (by rw [Hid, hTE.out, if_neg (by simp [hn1]), if_neg (by omega), if_pos (Or.inl (by simp [inT]; omega))])
      have hS : Hid (takeS (im, l) num tm = zSns) := by rw [Hid, takeS, if_neg (by rw [hE.out]; decide)]
      obtain ⟨q0, q1, qf⟩ := blk2 hrz3
      go_wp2_with fail
      have hz := blk2_set hrz3 (.slice none 0 0) (.slice none 0 0)
      have hbe := ((hbw3.setCell (p := ⟨n0 + 1, 0, none⟩) (by show n0 ≤ n0 + 1; omega) (.slice none 0 0)).setCell (p := ⟨n0 + 1, 1, none⟩) (by show n0 ≤ n0 + 1; omega) (.slice none 0 0))
      have hse := (SnRet.zero (w := (w5.setCell ⟨n0 + 1, 0, none⟩ (.slice none 0 0)).setCell ⟨n0 + 1, 1, none⟩ (.slice none 0 0)) (lo := n0) (by simp [World.setCell]; omega))
      change bodyPost _ _ _ _ _ ((w5.setCell ⟨(n0 + 1), 0, none⟩ (.slice none 0 0)).setCell ⟨(n0 + 1), 1, none⟩ (.slice none 0 0))
      generalize (w5.setCell ⟨(n0 + 1), 0, none⟩ (.slice none 0 0)).setCell ⟨(n0 + 1), 1, none⟩ (.slice none 0 0) = W3 at hz hbe hse ⊢
      obtain ⟨z0, z1, _⟩ := blk2 hz
      refine bodyPost_ret (v := .tuple #[.agg #[(.slice none 0 0), (.slice none 0 0)], .int .i64 24]) ?_ rfl ?_
      · simp [results, Tryz.results13, Tryz.f13, go_sem, z0, z1]
      rw [hE.out, hS.out]
      exact ⟨none, 0, none, 0, n0, rfl, by rw [hn0]; exact hse, by rw [hn0]; exact hbe⟩
    by_cases t2 : 1073741824 < tm
    · have hE : Hid (takeE (im, l) num tm = 24) := (by rw [Hid, hTE.out, if_neg (by simp [hn1]), if_neg (by omega), if_pos (Or.inl (by simp [inT]; omega))])
      have hS : Hid (takeS (im, l) num tm = zSns) := by rw [Hid, takeS, if_neg (by rw [hE.out]; decide)]
      obtain ⟨q0, q1, qf⟩ := blk2 hrz3
      go_wp2_with fail
      have hz := blk2_set hrz3 (.slice none 0 0) (.slice none 0 0)
      have hbe := ((hbw3.setCell (p := ⟨n0 + 1, 0, none⟩) (by show n0 ≤ n0 + 1; omega) (.slice none 0 0)).setCell (p := ⟨n0 + 1, 1, none⟩) (by show n0 ≤ n0 + 1; omega) (.slice none 0 0))
      have hse := (SnRet.zero (w := (w5.setCell ⟨n0 + 1, 0, none⟩ (.slice none 0 0)).setCell ⟨n0 + 1, 1, none⟩ (.slice none 0 0)) (lo := n0) (by simp [World.setCell]; omega))
      change bodyPost _ _ _ _ _ ((w5.setCell ⟨(n0 + 1), 0, none⟩ (.slice none 0 0)).setCell ⟨(n0 + 1), 1, none⟩ (.slice none 0 0))
      generalize (w5.setCell ⟨(n0 + 1), 0, none⟩ (.slice none 0 0)).setCell ⟨(n0 + 1), 1, none⟩ (.slice none 0 0) = W3 at hz hbe hse ⊢
      obtain ⟨z0, z1, _⟩ := blk2 hz
      refine bodyPost_ret (v := .tuple #[.agg #[(.slice none 0 0), (.slice none 0 0)], .int .i64 24]) ?_ rfl ?_
      · simp [results, Tryz.results13, Tryz.f13, go_sem, z0, z1]
      rw [hE.out, hS.out]
      exact ⟨none, 0, none, 0, n0, rfl, by rw [hn0]; exact hse, by rw [hn0]; exact hbe⟩
    have hn2 : inT tm = true := by simp [inT]; omega
    by_cases t3 : tm < lt
    · have hE : Hid (takeE (im, l) num tm = 24) := (by rw [Hid, hTE.out, if_neg (by simp [hn1]), if_neg (by omega), if_pos (Or.inr (by omega))])
      have hS : Hid (takeS (im, l) num tm = zSns) := by rw [Hid, takeS, if_neg (by rw [hE.out]; decide)]
      obtain ⟨q0, q1, qf⟩ := blk2 hrz3
      go_wp2_with fail
      have hz := blk2_set hrz3 (.slice none 0 0) (.slice none 0 0)
      have hbe := ((hbw3.setCell (p := ⟨n0 + 1, 0, none⟩) (by show n0 ≤ n0 + 1; omega) (.slice none 0 0)).setCell (p := ⟨n0 + 1, 1, none⟩) (by show n0 ≤ n0 + 1; omega) (.slice none 0 0))
      have hse := (SnRet.zero (w := (w5.setCell ⟨n0 + 1, 0, none⟩ (.slice none 0 0)).setCell ⟨n0 + 1, 1, none⟩ (.slice none 0 0)) (lo := n0) (by simp [World.setCell]; omega))
      change bodyPost _ _ _ _ _ ((w5.setCell ⟨(n0 + 1), 0, none⟩ (.slice none 0 0)).setCell ⟨(n0 + 1), 1, none⟩ (.slice none 0 0))
      generalize (w5.setCell ⟨(n0 + 1), 0, none⟩ (.slice none 0 0)).setCell ⟨(n0 + 1), 1, none⟩ (.slice none 0 0) = W3 at hz hbe hse ⊢
      obtain ⟨z0, z1, _⟩ := blk2 hz
      refine bodyPost_ret (v := .tuple #[.agg #[(.slice none 0 0), (.slice none 0 0)], .int .i64 24]) ?_ rfl ?_
      · simp [results, Tryz.results13, Tryz.f13, go_sem, z0, z1]
      rw [hE.out, hS.out]
      exact ⟨none, 0, none, 0, n0, rfl, by rw [hn0]; exact hse, by rw [hn0]; exact hbe⟩
    by_cases hfl : (1024 : Int) ≤ l.length
    · have hE : Hid (takeE (im, l) num tm = 11) := (by rw [Hid, hTE.out, if_neg (by simp [hn1]), if_neg n1, if_neg (by simp [hn2]; omega), if_pos (by omega)])
      have hS : Hid (takeS (im, l) num tm = zSns) := by rw [Hid, takeS, if_neg (by rw [hE.out]; decide)]
      obtain ⟨q0, q1, qf⟩ := blk2 hrz3
      go_wp2_with fail
      have hz := blk2_set hrz3 (.slice none 0 0) (.slice none 0 0)
      have hbe := ((hbw3.setCell (p := ⟨n0 + 1, 0, none⟩) (by show n0 ≤ n0 + 1; omega) (.slice none 0 0)).setCell (p := ⟨n0 + 1, 1, none⟩) (by show n0 ≤ n0 + 1; omega) (.slice none 0 0))
      have hse := (SnRet.zero (w := (w5.setCell ⟨n0 + 1, 0, none⟩ (.slice none 0 0)).setCell ⟨n0 + 1, 1, none⟩ (.slice none 0 0)) (lo := n0) (by simp [World.setCell]; omega))
      change bodyPost _ _ _ _ _ ((w5.setCell ⟨(n0 + 1), 0, none⟩ (.slice none 0 0)).setCell ⟨(n0 + 1), 1, none⟩ (.slice none 0 0))
      generalize (w5.setCell ⟨(n0 + 1), 0, none⟩ (.slice none 0 0)).setCell ⟨(n0 + 1), 1, none⟩ (.slice none 0 0) = W3 at hz hbe hse ⊢
      obtain ⟨z0, z1, _⟩ := blk2 hz
      refine bodyPost_ret (v := .tuple #[.agg #[(.slice none 0 0), (.slice none 0 0)], .int .i64 11]) ?_ rfl ?_
      · simp [results, Tryz.results13, Tryz.f13, go_sem, z0, z1]
      rw [hE.out, hS.out]
      exact ⟨none, 0, none, 0, n0, rfl, by rw [hn0]; exact hse, by rw [hn0]; exact hbe⟩
    have hE : Hid (takeE (im, l) num tm = 0) := by rw [Hid, hTE.out, if_neg (by simp [hn1]), if_neg n1, if_neg (by simp [hn2]; omega), if_neg (by omega)]
    have hS : Hid (takeS (im, l) num tm = (im, l ++ [(num, tm, [])])) := by rw [Hid, takeS, if_pos hE.out]
    go_upto_region 13 with (fail)
    clear e5 y0 y1 hji n1 t1 t2 t3
    go_wp2_with fail
    refine HCP.out.mono ?_
    rintro e w6 ⟨B, vc, D, dc, mid, rfl, hsn, hb6⟩
    clear HCP c0 c1
    go_upto_region 14 with (fail)
    obtain ⟨ob, hob⟩ : ∃ ob, w6.heap.size = ob := ⟨_, rfl⟩
    obtain ⟨w7, hw7⟩ : ∃ w7, w6.alloc (.cells #[.slice B im.length vc, .slice D l.length dc] 26) = w7 := ⟨_, rfl⟩
    rw [hw7, hob]
    have hb7 : Below w6.heap.size w6 w7 := by rw [← hw7]; exact ext_alloc (Below.refl _ _)
    have hr7 : w7.heap[ob]? = some (.cells #[.slice B im.length vc, .slice D l.length dc] 26 (0, 0)) := by rw [← hw7, ← hob]; exact heap_alloc_new _ _
    have hs7 : ob < w7.heap.size := (Array.getElem?_eq_some_iff.1 hr7).1
    have hz6 := hb6.size
    have hsn7 := hsn.below hb7
    obtain ⟨k1, k2, k3, k4, k5, k6⟩ := hsn
    have hO7 : Hid (OwnX (fun g => g = ob) encSnp w7 mid 76 (.slice D l.length dc) l) := (k6.var (X' := fun g => g = ob) (fun g hg => Or.inr (by omega))).below hb7
    have hO8 := Lib.hid (hO7.out.alloc (.cells #[.int .i64 num, .int .i64 tm, .slice none 0 0] 76))
    have hO8o := Lib.hid hO8.out.1
    have hlo := Lib.hid k6.lt
    have hHI := Lib.hid k5
    have HRD : Hid (encSnp.rd (w7.alloc (.cells #[.int .i64 num, .int .i64 tm, .slice none 0 0] 76)) (fun g => Nw mid (w7.alloc (.cells #[.int .i64 num, .int .i64 tm, .slice none 0 0] 76)).heap.size g ∧ ¬ (fun g => g = ob) g ∧ (Value.slice D l.length dc).ownBlock ≠ some g) [.int .i64 num, .int .i64 tm, .slice none 0 0] (num, tm, [])) := snp_mk (x := (num, tm, [])) ⟨hnum.out.1, hnum.out.2⟩ ⟨htm.out.1, htm.out.2⟩ (by simp) (by simp) SlAt.nil_
    have hrz7 : w7.heap[n0 + 1]? = some (.cells #[.slice none 0 0, .slice none 0 0] 26 (0, 0)) := (hb7.block _ (by omega)).trans ((hb6.block _ (by omega)).trans hrz3)
    have hbw7 : Below n0 w w7 := (hbw3.trans (hb6.mono (by omega))).trans (hb7.mono (by omega))
    obtain ⟨o0, o1, _⟩ := blk2 hr7
    have hz7 := hb7.size
    clear k5 k6 hw7 hsn7
    go_wp2_with (at_builtin; refine Hid.out ?_)
    change wpList _ _ _ _ _ _
    refine wpList_app1 (E := encSnp) tySnps rfl _ _ rfl rfl hO8o.out (num, tm, []) [.int .i64 num, .int .i64 tm, .slice none 0 0] rfl HRD.out (heap_alloc_new _ _) (fun _ h => h.1.2) (by simp; omega) (by unfold maxLen; omega) (by omega) ?_
    intro A9 c9 w9 hown9 hg9 hat9
    have hz9 := hg9.size
    rw [World.size_alloc] at hz9
    have hkeep9 : ∀ g, g < w7.heap.size → (Value.slice D l.length dc).ownBlock ≠ some g → w9.heap[g]? = w7.heap[g]? := fun g hg hne => (hg9.block g (by rw [World.size_alloc]; omega) (fun e => hne e.symm)).trans (Below.heap_alloc _ _ _ hg)
    have hro9 := (hkeep9 ob hs7 (fun e => by have := (hlo.out ob e).2; omega)).trans hr7
    have hrz9 := (hkeep9 (n0 + 1) (by omega) (fun e => by have := (hlo.out _ e).1; omega)).trans hrz7
    have hO9 : Hid (OwnX (fun g => g = ob) encSnp (w9.setCell ⟨ob, 1, none⟩ (.slice A9 (l.length + 1) c9)) mid 76 (.slice A9 (l.length + 1) c9) (l ++ [(num, tm, [])])) := (hO8.out.app hown9 hg9 hat9 (fun g hg => by rw [hg]; simp; omega)).set (p := ⟨ob, 1, none⟩) rfl _
    have hbw9 : Below n0 w (w9.setCell ⟨ob, 1, none⟩ (.slice A9 (l.length + 1) c9)) := ((hbw7.alloc (by omega) (.cells #[.int .i64 num, .int .i64 tm, .slice none 0 0] 76)).grown hg9 (by simp; omega) (fun g h => by have := (hlo.out g h).1; omega)).setCell (p := ⟨ob, 1, none⟩) (by show n0 ≤ ob; omega) _
    have hI9 : Hid (SlAt (encSl encSec) (w9.setCell ⟨ob, 1, none⟩ (.slice A9 (l.length + 1) c9)) (Nw w5.heap.size mid) B im) := hHI.out.blk (fun g hg => (heap_setCell_other _ _ _ _ (by have := hg.2; show g ≠ ob; omega)).trans ((hkeep9 g (by have := hg.2; omega) (fun e => by have := (hlo.out g e).1; have := hg.2; omega)).trans (hb7.block g (by have := hg.2; omega))))
    have hro10 := blk2_1 hro9 (.slice A9 (l.length + 1) c9)
    have hrz10 := (heap_setCell_other w9 ⟨ob, 1, none⟩ (n0 + 1) (.slice A9 (l.length + 1) c9) (by show n0 + 1 ≠ ob; omega)).trans hrz9
    have hz10 : mid ≤ (w9.setCell ⟨ob, 1, none⟩ (.slice A9 (l.length + 1) c9)).heap.size := by simp [World.setCell]; omega
    obtain ⟨_, o1, of⟩ := blk2 hro9
    clear hown9 hg9 hat9 hkeep9 HRD
    go_upto_region 15 with (fail)
    generalize w9.setCell ⟨ob, 1, none⟩ (.slice A9 (l.length + 1) c9) = w10 at hO9 hbw9 hI9 hro10 hrz10 hz10 ⊢
    clear o0 o1 of hro9 hrz9
    obtain ⟨o0, o1, _⟩ := blk2 hro10
    obtain ⟨q0, q1, qf⟩ := blk2 hrz10
    go_wp2_with fail
    have hz := blk2_set hrz10 (.slice B im.length vc) (.slice A9 (l.length + 1) c9)
    have hbe := ((hbw9.setCell (p := ⟨n0 + 1, 0, none⟩) (by show n0 ≤ n0 + 1; omega) (.slice B im.length vc)).setCell (p := ⟨n0 + 1, 1, none⟩) (by show n0 ≤ n0 + 1; omega) (.slice A9 (l.length + 1) c9))
    have hse := (((show SnRet im (l ++ [(num, tm, [])]) B vc A9 c9 mid w5.heap.size w10 from ⟨k1, k2, k3, hz10, hI9.out, by have := hO9.out.var (X' := fun _ => False) (fun g hg => hg.elim); simpa using this⟩).set (p := ⟨n0 + 1, 0, none⟩) (by show n0 + 1 < w5.heap.size; omega) (.slice B im.length vc)).set (p := ⟨n0 + 1, 1, none⟩) (by show n0 + 1 < w5.heap.size; omega) (.slice A9 (l.length + 1) c9))
    change bodyPost _ _ _ _ _ ((w10.setCell ⟨(n0 + 1), 0, none⟩ (.slice B im.length vc)).setCell ⟨(n0 + 1), 1, none⟩ (.slice A9 (l.length + 1) c9))
    generalize (w10.setCell ⟨(n0 + 1), 0, none⟩ (.slice B im.length vc)).setCell ⟨(n0 + 1), 1, none⟩ (.slice A9 (l.length + 1) c9) = W3 at hz hbe hse ⊢
    obtain ⟨z0, z1, _⟩ := blk2 hz
    refine bodyPost_ret (v := .tuple #[.agg #[(.slice B im.length vc), (.slice A9 (l.length + 1) c9)], .int .i64 0]) ?_ rfl ?_
    · simp [results, Tryz.results13, Tryz.f13, go_sem, z0, z1]
    rw [hE.out, hS.out]
    exact ⟨B, vc, A9, c9, mid, by simp, hse.low (by omega), by rw [hn0]; exact hbe⟩
  · have hnil : l = [] := List.eq_nil_of_length_eq_zero (by omega)
    have hlast : Hid (lastN l = -1 ∧ lastT l = 0) := by rw [hnil]; exact ⟨rfl, rfl⟩
    rw [hlast.out.1, hlast.out.2] at hTE
    have n1 : ¬ num ≤ -1 := by omega
    clear hnil
    by_cases t1 : tm < 0
    · have hE : Hid (takeE (im, l) num tm = 24) := (by rw [Hid, hTE.out, if_neg (by simp [hn1]), if_neg (by omega), if_pos (Or.inl (by simp [inT]; omega))])
      have hS : Hid (takeS (im, l) num tm = zSns) := by rw [Hid, takeS, if_neg (by rw [hE.out]; decide)]
      obtain ⟨q0, q1, qf⟩ := blk2 hrz3
      go_wp2_with fail
      have hz := blk2_set hrz3 (.slice none 0 0) (.slice none 0 0)
      have hbe := ((hbw3.setCell (p := ⟨n0 + 1, 0, none⟩) (by show n0 ≤ n0 + 1; omega) (.slice none 0 0)).setCell (p := ⟨n0 + 1, 1, none⟩) (by show n0 ≤ n0 + 1; omega) (.slice none 0 0))
      have hse := (SnRet.zero (w := (w5.setCell ⟨n0 + 1, 0, none⟩ (.slice none 0 0)).setCell ⟨n0 + 1, 1, none⟩ (.slice none 0 0)) (lo := n0) (by simp [World.setCell]; omega))
      change bodyPost _ _ _ _ _ ((w5.setCell ⟨(n0 + 1), 0, none⟩ (.slice none 0 0)).setCell ⟨(n0 + 1), 1, none⟩ (.slice none 0 0))
      generalize (w5.setCell ⟨(n0 + 1), 0, none⟩ (.slice none 0 0)).setCell ⟨(n0 + 1), 1, none⟩ (.slice none 0 0) = W3 at hz hbe hse ⊢
      obtain ⟨z0, z1, _⟩ := blk2 hz
      refine bodyPost_ret (v := .tuple #[.agg #[(.slice none 0 0), (.slice none 0 0)], .int .i64 24]) ?_ rfl ?_
      · simp [results, Tryz.results13, Tryz.f13, go_sem, z0, z1]
      rw [hE.out, hS.out]
      exact ⟨none, 0, none, 0, n0, rfl, by rw [hn0]; exact hse, by rw [hn0]; exact hbe⟩
    by_cases t2 : 1073741824 < tm
    · have hE : Hid (takeE (im, l) num tm = 24) := (by rw [Hid, hTE.out, if_neg (by simp [hn1]), if_neg (by omega), if_pos (Or.inl (by simp [inT]; omega))])
      have hS : Hid (takeS (im, l) num tm = zSns) := by rw [Hid, takeS, if_neg (by rw [hE.out]; decide)]
      obtain ⟨q0, q1, qf⟩ := blk2 hrz3
      go_wp2_with fail
      have hz := blk2_set hrz3 (.slice none 0 0) (.slice none 0 0)
      have hbe := ((hbw3.setCell (p := ⟨n0 + 1, 0, none⟩) (by show n0 ≤ n0 + 1; omega) (.slice none 0 0)).setCell (p := ⟨n0 + 1, 1, none⟩) (by show n0 ≤ n0 + 1; omega) (.slice none 0 0))
      have hse := (SnRet.zero (w := (w5.setCell ⟨n0 + 1, 0, none⟩ (.slice none 0 0)).setCell ⟨n0 + 1, 1, none⟩ (.slice none 0 0)) (lo := n0) (by simp [World.setCell]; omega))
      change bodyPost _ _ _ _ _ ((w5.setCell ⟨(n0 + 1), 0, none⟩ (.slice none 0 0)).setCell ⟨(n0 + 1), 1, none⟩ (.slice none 0 0))
      generalize (w5.setCell ⟨(n0 + 1), 0, none⟩ (.slice none 0 0)).setCell ⟨(n0 + 1), 1, none⟩ (.slice none 0 0) = W3 at hz hbe hse ⊢
      obtain ⟨z0, z1, _⟩ := blk2 hz
      refine bodyPost_ret (v := .tuple #[.agg #[(.slice none 0 0), (.slice none 0 0)], .int .i64 24]) ?_ rfl ?_
      · simp [results, Tryz.results13, Tryz.f13, go_sem, z0, z1]
      rw [hE.out, hS.out]
      exact ⟨none, 0, none, 0, n0, rfl, by rw [hn0]; exact hse, by rw [hn0]; exact hbe⟩
    have hn2 : inT tm = true := by simp [inT]; omega
    have t3 : ¬ tm < 0 := t1
    have hfl : ¬ (1024 : Int) ≤ l.length := by omega
    have hE : Hid (takeE (im, l) num tm = 0) := by rw [Hid, hTE.out, if_neg (by simp [hn1]), if_neg n1, if_neg (by simp [hn2]; omega), if_neg (by omega)]
    have hS : Hid (takeS (im, l) num tm = (im, l ++ [(num, tm, [])])) := by rw [Hid, takeS, if_pos hE.out]
    go_upto_region 13 with (fail)
    clear n1 t1 t2 t3
    go_wp2_with fail
    refine HCP.out.mono ?_
    rintro e w6 ⟨B, vc, D, dc, mid, rfl, hsn, hb6⟩
    clear HCP c0 c1
    go_upto_region 14 with (fail)
    obtain ⟨ob, hob⟩ : ∃ ob, w6.heap.size = ob := ⟨_, rfl⟩
    obtain ⟨w7, hw7⟩ : ∃ w7, w6.alloc (.cells #[.slice B im.length vc, .slice D l.length dc] 26) = w7 := ⟨_, rfl⟩
    rw [hw7, hob]
    have hb7 : Below w6.heap.size w6 w7 := by rw [← hw7]; exact ext_alloc (Below.refl _ _)
    have hr7 : w7.heap[ob]? = some (.cells #[.slice B im.length vc, .slice D l.length dc] 26 (0, 0)) := by rw [← hw7, ← hob]; exact heap_alloc_new _ _
    have hs7 : ob < w7.heap.size := (Array.getElem?_eq_some_iff.1 hr7).1
    have hz6 := hb6.size
    have hsn7 := hsn.below hb7
    obtain ⟨k1, k2, k3, k4, k5, k6⟩ := hsn
    have hO7 : Hid (OwnX (fun g => g = ob) encSnp w7 mid 76 (.slice D l.length dc) l) := (k6.var (X' := fun g => g = ob) (fun g hg => Or.inr (by omega))).below hb7
    have hO8 := Lib.hid (hO7.out.alloc (.cells #[.int .i64 num, .int .i64 tm, .slice none 0 0] 76))
    have hO8o := Lib.hid hO8.out.1
    have hlo := Lib.hid k6.lt
    have hHI := Lib.hid k5
    have HRD : Hid (encSnp.rd (w7.alloc (.cells #[.int .i64 num, .int .i64 tm, .slice none 0 0] 76)) (fun g => Nw mid (w7.alloc (.cells #[.int .i64 num, .int .i64 tm, .slice none 0 0] 76)).heap.size g ∧ ¬ (fun g => g = ob) g ∧ (Value.slice D l.length dc).ownBlock ≠ some g) [.int .i64 num, .int .i64 tm, .slice none 0 0] (num, tm, [])) := snp_mk (x := (num, tm, [])) ⟨hnum.out.1, hnum.out.2⟩ ⟨htm.out.1, htm.out.2⟩ (by simp) (by simp) SlAt.nil_
    have hrz7 : w7.heap[n0 + 1]? = some (.cells #[.slice none 0 0, .slice none 0 0] 26 (0, 0)) := (hb7.block _ (by omega)).trans ((hb6.block _ (by omega)).trans hrz3)
    have hbw7 : Below n0 w w7 := (hbw3.trans (hb6.mono (by omega))).trans (hb7.mono (by omega))
    obtain ⟨o0, o1, _⟩ := blk2 hr7
    have hz7 := hb7.size
    clear k5 k6 hw7 hsn7
    go_wp2_with (at_builtin; refine Hid.out ?_)
    change wpList _ _ _ _ _ _
    refine wpList_app1 (E := encSnp) tySnps rfl _ _ rfl rfl hO8o.out (num, tm, []) [.int .i64 num, .int .i64 tm, .slice none 0 0] rfl HRD.out (heap_alloc_new _ _) (fun _ h => h.1.2) (by simp; omega) (by unfold maxLen; omega) (by omega) ?_
    intro A9 c9 w9 hown9 hg9 hat9
    have hz9 := hg9.size
    rw [World.size_alloc] at hz9
    have hkeep9 : ∀ g, g < w7.heap.size → (Value.slice D l.length dc).ownBlock ≠ some g → w9.heap[g]? = w7.heap[g]? := fun g hg hne => (hg9.block g (by rw [World.size_alloc]; omega) (fun e => hne e.symm)).trans (Below.heap_alloc _ _ _ hg)
    have hro9 := (hkeep9 ob hs7 (fun e => by have := (hlo.out ob e).2; omega)).trans hr7
    have hrz9 := (hkeep9 (n0 + 1) (by omega) (fun e => by have := (hlo.out _ e).1; omega)).trans hrz7
    have hO9 : Hid (OwnX (fun g => g = ob) encSnp (w9.setCell ⟨ob, 1, none⟩ (.slice A9 (l.length + 1) c9)) mid 76 (.slice A9 (l.length + 1) c9) (l ++ [(num, tm, [])])) := (hO8.out.app hown9 hg9 hat9 (fun g hg => by rw [hg]; simp; omega)).set (p := ⟨ob, 1, none⟩) rfl _
    have hbw9 : Below n0 w (w9.setCell ⟨ob, 1, none⟩ (.slice A9 (l.length + 1) c9)) := ((hbw7.alloc (by omega) (.cells #[.int .i64 num, .int .i64 tm, .slice none 0 0] 76)).grown hg9 (by simp; omega) (fun g h => by have := (hlo.out g h).1; omega)).setCell (p := ⟨ob, 1, none⟩) (by show n0 ≤ ob; omega) _
    have hI9 : Hid (SlAt (encSl encSec) (w9.setCell ⟨ob, 1, none⟩ (.slice A9 (l.length + 1) c9)) (Nw w5.heap.size mid) B im) := hHI.out.blk (fun g hg => (heap_setCell_other _ _ _ _ (by have := hg.2; show g ≠ ob; omega)).trans ((hkeep9 g (by have := hg.2; omega) (fun e => by have := (hlo.out g e).1; have := hg.2; omega)).trans (hb7.block g (by have := hg.2; omega))))
    have hro10 := blk2_1 hro9 (.slice A9 (l.length + 1) c9)
    have hrz10 := (heap_setCell_other w9 ⟨ob, 1, none⟩ (n0 + 1) (.slice A9 (l.length + 1) c9) (by show n0 + 1 ≠ ob; omega)).trans hrz9
    have hz10 : mid ≤ (w9.setCell ⟨ob, 1, none⟩ (.slice A9 (l.length + 1) c9)).heap.size := by simp [World.setCell]; omega
    obtain ⟨_, o1, of⟩ := blk2 hro9
    clear hown9 hg9 hat9 hkeep9 HRD
    go_upto_region 15 with (fail)
    generalize w9.setCell ⟨ob, 1, none⟩ (.slice A9 (l.length + 1) c9) = w10 at hO9 hbw9 hI9 hro10 hrz10 hz10 ⊢
    clear o0 o1 of hro9 hrz9
    obtain ⟨o0, o1, _⟩ := blk2 hro10
    obtain ⟨q0, q1, qf⟩ := blk2 hrz10
    go_wp2_with fail
    have hz := blk2_set hrz10 (.slice B im.length vc) (.slice A9 (l.length + 1) c9)
    have hbe := ((hbw9.setCell (p := ⟨n0 + 1, 0, none⟩) (by show n0 ≤ n0 + 1; omega) (.slice B im.length vc)).setCell (p := ⟨n0 + 1, 1, none⟩) (by show n0 ≤ n0 + 1; omega) (.slice A9 (l.length + 1) c9))
    have hse := (((show SnRet im (l ++ [(num, tm, [])]) B vc A9 c9 mid w5.heap.size w10 from ⟨k1, k2, k3, hz10, hI9.out, by have := hO9.out.var (X' := fun _ => False) (fun g hg => hg.elim); simpa using this⟩).set (p := ⟨n0 + 1, 0, none⟩) (by show n0 + 1 < w5.heap.size; omega) (.slice B im.length vc)).set (p := ⟨n0 + 1, 1, none⟩) (by show n0 + 1 < w5.heap.size; omega) (.slice A9 (l.length + 1) c9))
    change bodyPost _ _ _ _ _ ((w10.setCell ⟨(n0 + 1), 0, none⟩ (.slice B im.length vc)).setCell ⟨(n0 + 1), 1, none⟩ (.slice A9 (l.length + 1) c9))
    generalize (w10.setCell ⟨(n0 + 1), 0, none⟩ (.slice B im.length vc)).setCell ⟨(n0 + 1), 1, none⟩ (.slice A9 (l.length + 1) c9) = W3 at hz hbe hse ⊢
    obtain ⟨z0, z1, _⟩ := blk2 hz
    refine bodyPost_ret (v := .tuple #[.agg #[(.slice B im.length vc), (.slice A9 (l.length + 1) c9)], .int .i64 0]) ?_ rfl ?_
    · simp [results, Tryz.results13, Tryz.f13, go_sem, z0, z1]
    rw [hE.out, hS.out]
    exact ⟨B, vc, A9, c9, mid, by simp, hse.low (by omega), by rw [hn0]; exact hbe⟩
end Go.Proofs.YtgmeghandjkkcaaGreat
