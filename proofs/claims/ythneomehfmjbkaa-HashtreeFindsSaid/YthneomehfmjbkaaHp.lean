/-
  The code's Check: the walk.
-/
import Derived.Test.YthneomehfmjbkaaHn
import Derived.Test.YthneomehfmjbkaaHo
import Derived.Test.YthneomehfmjbkaaHq
set_option linter.unusedVariables false
set_option linter.unusedSimpArgs false
set_option linter.unusedSectionVars false
set_option linter.unnecessarySimpa false
namespace Go.Proofs.Ythneomehfmjbkaa
open Go.RowKit Go.Shelf
attribute [local go_sem] Oper.semAt_some

theorem shC_drop {n m k : Nat} {l : List (List Int)} (h : shC n l = shC m (l.drop k)) (hk : k < l.length) : shC n l = ((l[k].length == m) && (m != 1 || (l.drop (k + 1)).isEmpty) && shC (((if m = 1 then 0 else m) + 1) / 2) (l.drop (k + 1))) := by
  rw [h, List.drop_eq_getElem_cons hk]; rfl
theorem lvT_ne {n g k k' : Nat} {W : World} (h : LvT (Bl n) k' W g) (hn : n ≤ k) (hk : k < k') : g ≠ k := by
  rcases h with h | h
  · have : g < n := h; omega
  · have := h.1; omega
theorem lvT_lt {n g k : Nat} {W : World} (h : LvT (Bl n) k W g) (hn : n ≤ W.heap.size) : g < W.heap.size := by
  rcases h with h | h
  · have : g < n := h; omega
  · exact h.2
set_option maxHeartbeats 4000000 in
theorem check_any (s lf : Int) (A : Option Addr) (c n : Nat) (l : List (List Int)) (r : Int) (w : World) (hn : l.length = n) (hr : checkT (s, lf, l) = r) (h1 : SlAt (encSl encU64) w (Bl w.heap.size) A l) (hs : n ≤ 100000) (hc : n ≤ c ∧ c ≤ maxLen) (hI : I64 s ∧ I64 lf) :
    Calls Try.prog 23 #[.agg #[.int .i64 s, .int .i64 lf, .slice A n c]] w fun e w' => e = .returned (.int .i64 r) ∧ Below w.heap.size w w' := by
  subst hn
  have HR := Lib.hid hr; clear hr
  have H1 : Hid (∀ w', Below w.heap.size w w' → SlAt (encSl encU64) w' (Bl w.heap.size) A l) := fun w' hb => h1.below hb
  clear h1
  obtain ⟨W0, hW0⟩ : ∃ W0, w.alloc (.cells #[.int .i64 s, .int .i64 lf, .slice A l.length c] 26) = W0 := ⟨_, rfl⟩
  have hB0 : Below w.heap.size w W0 := by rw [← hW0]; exact ext_alloc (Below.refl _ _)
  have hrow : W0.heap[w.heap.size]? = some (.cells #[.int .i64 s, .int .i64 lf, .slice A l.length c] 26 (0, 0)) := by rw [← hW0]; exact heap_alloc_new _ _
  obtain ⟨r0, r1, r2, rf⟩ := blk3 hrow
  have HROW := Lib.hid hrow; clear hrow rf
  have HLM := Lib.hid (limits_any s lf (limN s lf) W0 rfl)
  have HL := Lib.hid (limN_cases s lf)
  obtain ⟨⟨hs1, hs2⟩, hf1, hf2⟩ := hI
  go_enter Try.func23, Try.ntmps23
  go_wp2_with fail
  refine HLM.out.mono ?_
  rintro e W0 ⟨rfl, rfl⟩
  by_cases hl0 : limN s lf = 0
  · have h0' : (limN s lf != 0) = false := by simp [hl0]
    obtain ⟨a1, a2, a3, a4⟩ : 1 ≤ s ∧ s ≤ 4096 ∧ 1 ≤ lf ∧ lf ≤ 4096 := by
      rcases HL.out with ⟨g1, _⟩ | ⟨g1, _⟩ | ⟨_, g2⟩
      · rw [g1] at hl0; cases hl0
      · rw [g1] at hl0; cases hl0
      · exact g2
    obtain ⟨sn, rfl⟩ : ∃ sn : Nat, s = sn := ⟨s.toNat, by omega⟩
    obtain ⟨m0, rfl⟩ : ∃ m0 : Nat, lf = m0 := ⟨lf.toNat, by omega⟩
    have HLV := Lib.hid (leaves_any sn m0 W0 ⟨by omega, by omega⟩ ⟨by omega, by omega⟩)
    have HNP := Lib.hid (leavesN_pos (n := sn) (m := m0) (by omega) (by omega))
    have HNL := Lib.hid (leavesN_le (n := sn) (m := m0) (by omega))
    have HL0 := Lib.hid hl0
    obtain ⟨N, hN⟩ : ∃ N, leavesN sn m0 = N := ⟨_, rfl⟩
    have HCT : Hid (checkT ((sn : Int), (m0 : Int), l) = if shC N l = false then 3 else if levels (l.headD []) ≠ l then 22 else 0) := by
      rw [Hid, checkT, if_neg (by simp [hl0]), shC_eq l N (by have := HNP.out; omega), ← hN]
      rfl
    rw [hN] at HLV HNP HNL
    clear hl0
    go_wp2_with fail
    refine HLV.out.mono ?_
    rintro e W0 ⟨rfl, rfl⟩
    clear HLM HL HLV
    have hNle : N ≤ 4096 := by have := HNL.out; omega
    go_wp2_with fail
    go_loopw [4, 24] (fun v i wr => ∃ (k m : Nat), k ≤ l.length ∧ m ≤ 4096 ∧ i = .int .i64 (k : Nat) ∧ v = .int .i64 (m : Nat) ∧ wr = W0 ∧ Hid (shC N l = shC m (l.drop k))) (fun _ i _ => l.length - (intOf i).toNat)
    case atStart => exact ⟨0, N, by omega, hNle, rfl, rfl, rfl, rfl⟩
    case round =>
      obtain ⟨k, m, hk, hm, rfl, rfl, rfl, hsh⟩ := hrel
      by_cases hlt : k < l.length
      · obtain ⟨b, off, D, dc, rfl, hb, g0, hD, hd1, hd2⟩ := (H1.out _ hB0).sl hlt
        have hnn : (0 : Int) ≤ k := by omega
        have hki : (k : Int) < l.length := by omega
        have HST := Lib.hid (shC_drop hsh.out hlt)
        obtain ⟨q, hq⟩ : ∃ q, Hid (q = (l[k]'hlt).length) := ⟨_, Lib.hid rfl⟩
        rw [← hq.out] at g0 HST
        clear hD hd1 hd2
        by_cases hqm : q = m
        · subst hqm
          by_cases hm1 : q = 1
          · have hm1' : ((q : Int) == 1) = true := by simp [hm1]
            by_cases hk2 : k + 1 < l.length
            · have hk2' : (k : Int) + 1 < l.length := by omega
              have hf : Hid (shC N l = false) := by
                have he : (l.drop (k + 1)).isEmpty = false := by rw [List.isEmpty_eq_false_iff, Ne, List.drop_eq_nil_iff]; omega
                rw [Hid, HST.out, he]; simp [hm1]
              clear hm1
              go_wp2_with fail
              go_ret
              rw [← HR.out, HCT.out, hf.out]
              exact ⟨rfl, hB0⟩
            · have hk2' : ¬ (k : Int) + 1 < l.length := by omega
              have hf : Hid (shC N l = shC 0 (l.drop (k + 1))) := by
                have he : (l.drop (k + 1)).isEmpty = true := by rw [List.isEmpty_iff, List.drop_eq_nil_iff]; omega
                rw [Hid, HST.out, he]; simp [hm1]
              clear hm1
              go_wp2_with fail
              go_roundw
              case rel => exact ⟨k + 1, 0, hlt, by omega, by go_num, by go_num, by trivial, hf.out⟩
              case measure => simp [intOf]; omega
          · have hm1' : ((q : Int) == 1) = false := by simp; omega
            have hf : Hid (shC N l = shC ((q + 1) / 2) (l.drop (k + 1))) := by rw [Hid, HST.out]; simp [hm1]
            clear hm1
            go_wp2_with fail
            go_roundw
            case rel => exact ⟨k + 1, (q + 1) / 2, hlt, by omega, by go_num, by go_num, by trivial, hf.out⟩
            case measure => simp [intOf]; omega
        · have hqm' : ((q : Int) != (m : Int)) = true := by simp; omega
          have hf : Hid (shC N l = false) := by rw [Hid, HST.out]; simp [hqm]
          go_wp2_with fail
          go_ret
          rw [← HR.out, HCT.out, hf.out]
          exact ⟨rfl, hB0⟩
      · have hkk : k = l.length := by omega
        subst hkk
        have HSE : Hid (shC N l = (m == 0)) := by rw [Hid, hsh.out, List.drop_length]; rfl
        by_cases hm0 : m = 0
        · have hm0' : ((m : Int) != 0) = false := by simp [hm0]
          have hst : Hid (shC N l = true) := by rw [Hid, HSE.out]; simp [hm0]
          clear hm0
          have hl0 : 0 < l.length := by
            rcases Nat.eq_zero_or_pos l.length with h | h
            · have e := List.eq_nil_of_length_eq_zero h
              have h5 := hst.out
              rw [e, shC] at h5
              have := HNP.out
              have h6 : N = 0 := by simpa using h5
              omega
            · exact h
          have hl0N : Hid ((l[0]'hl0).length = N) := by
            have h5 := hst.out
            rw [shC_drop (m := N) (k := 0) rfl hl0] at h5
            simp only [Bool.and_eq_true] at h5
            simpa [Hid] using h5.1.1
          obtain ⟨b, off, D, dc, rfl, hb, g0, hD, hd1, hd2⟩ := (H1.out _ hB0).sl hl0
          have hhd : Hid (l.headD [] = l[0]'hl0) := by
            rw [Hid]
            cases l with
            | nil => simp at hl0
            | cons x r => rfl
          obtain ⟨x, hx⟩ : ∃ x, Hid (x = l[0]'hl0) := ⟨_, Lib.hid rfl⟩
          rw [← hx.out] at g0 hD hd1 hl0N hhd
          have hxl := hl0N.out
          have hb0 : b < wr.heap.size := Nat.lt_of_lt_of_le hb hB0.size
          have hnx : x.length ≤ 4096 := by omega
          have hnx1 : 1 ≤ x.length := by have := HNP.out; omega
          have HAB := Lib.hid (fun W' (hw : Below wr.heap.size wr W') => above_anyS D dc x.length (Bl w.heap.size) (sn : Int) (m0 : Int) x W' rfl hnx1 (fun g hg => Nat.lt_of_lt_of_le hg (Nat.le_trans hB0.size hw.size)) ⟨hd1, hd2⟩ (hD.below (hw.mono hB0.size)) (by omega))
          have hki : (0 : Int) < l.length := by omega
          clear hD hd1 hd2 hxl hnx hnx1
          go_upto_region 16 with (fail)
          have hb1 : w.heap.size < wr.heap.size := (Array.getElem?_eq_some_iff.1 HROW.out).1
          have HC : Hid (∀ w', Below wr.heap.size wr w' → w'.cell? ⟨w.heap.size, 0, none⟩ = some (.int .i64 sn) ∧ w'.cell? ⟨w.heap.size, 1, none⟩ = some (.int .i64 m0) ∧ w'.cell? ⟨w.heap.size, 2, none⟩ = some (.slice (some ⟨b, off, none⟩) l.length c) ∧ w'.cell? ⟨b, off, none⟩ = some (.slice D x.length dc)) := fun w' hw => ⟨(hw.cell (p := ⟨w.heap.size, 0, none⟩) hb1).trans r0, (hw.cell (p := ⟨w.heap.size, 1, none⟩) hb1).trans r1, (hw.cell (p := ⟨w.heap.size, 2, none⟩) hb1).trans r2, (hw.cell (p := ⟨b, off, none⟩) hb0).trans (by simpa using g0)⟩
          have hc0 := HC.out wr.drew (Below.refl _ _).drew
          go_region_held3 (fun w' => w'.cell? ⟨w.heap.size, 0, none⟩ = some (.int .i64 sn) ∧ w'.cell? ⟨w.heap.size, 1, none⟩ = some (.int .i64 m0) ∧ w'.cell? ⟨w.heap.size, 2, none⟩ = some (.slice (some ⟨b, off, none⟩) l.length c) ∧ w'.cell? ⟨b, off, none⟩ = some (.slice D x.length dc)) (first | exact hc0 | exact HC.out _ (ext_alloc (Below.refl _ _)).drew | exact HC.out _ hx4 | exact HC.out _ (ext_alloc hx4) | exact HC.out _ (((hx4.setCell (p := ⟨wr.heap.size, 0, none⟩) (Nat.le_refl wr.heap.size) _).setCell (p := ⟨wr.heap.size, 1, none⟩) (Nat.le_refl wr.heap.size) _).setCell (p := ⟨wr.heap.size, 2, none⟩) (Nat.le_refl wr.heap.size) _) | go_keep) (first | (go_at_call 40; refine (HAB.out wr.drew (Below.refl _ _).drew).mono ?_; rintro e w4 ⟨A4, c4, rfl, t1, t2, t3, t4⟩; have hx4 : Below wr.heap.size wr w4 := bUn t4) | (go_at_call 40; refine (HAB.out _ (ext_alloc (Below.refl _ _)).drew).mono ?_; rintro e w4 ⟨A4, c4, rfl, t1, t2, t3, t4⟩; have hx4 : Below wr.heap.size wr w4 := ext_trans (ext_alloc (Below.refl _ _)).drew t4; have zr : w4.heap[wr.heap.size]? = some (.cells #[.int .i64 0, .int .i64 0, .slice none 0 0] 26 (0, 0)) := (t4.block _ (by simp [World.drew])).trans (heap_alloc_new wr _); obtain ⟨y0, y1, y2, yf⟩ := blk3 zr))
          all_goals first
            | (have hz := heap_alloc_new w4 (.cells #[.int .i64 sn, .int .i64 m0, .slice A4 (levels x).length c4] 26)
               have hB5 := hx4.trans (Below.alloc (Below.refl wr.heap.size w4) hx4.size (.cells #[.int .i64 sn, .int .i64 m0, .slice A4 (levels x).length c4] 26))
               have hS5 := t3.blk (fun g hg => Below.heap_alloc w4 (.cells #[.int .i64 sn, .int .i64 m0, .slice A4 (levels x).length c4] 26) g (lvT_lt hg (Nat.le_trans hB0.size hx4.size)))
               clear t3 t4 hx4
               change Exit.then _ _ _ _ (w4.alloc (.cells #[.int .i64 sn, .int .i64 m0, .slice A4 (levels x).length c4] 26))
               generalize (w4.alloc (.cells #[.int .i64 sn, .int .i64 m0, .slice A4 (levels x).length c4] 26)) = W5 at hz hB5 hS5 ⊢
               generalize w4.heap.size = g5 at hz hS5 ⊢)
            | (have hz := blk3_all zr (.int .i64 sn) (.int .i64 m0) (.slice A4 (levels x).length c4)
               have hB5 := ((hx4.setCell (p := ⟨wr.heap.size, 0, none⟩) (Nat.le_refl wr.heap.size) (.int .i64 sn)).setCell (p := ⟨wr.heap.size, 1, none⟩) (Nat.le_refl wr.heap.size) (.int .i64 m0)).setCell (p := ⟨wr.heap.size, 2, none⟩) (Nat.le_refl wr.heap.size) (.slice A4 (levels x).length c4)
               have hS5 := t3.blk (fun g hg => blk3_other (b := wr.heap.size) (u := .int .i64 sn) (v := .int .i64 m0) (t := .slice A4 (levels x).length c4) (lvT_ne hg hB0.size (by simp [World.drew])))
               clear zr y0 y1 y2 yf t3 t4 hx4
               change Exit.then _ _ _ _ (((w4.setCell ⟨wr.heap.size, 0, none⟩ (.int .i64 sn)).setCell ⟨wr.heap.size, 1, none⟩ (.int .i64 m0)).setCell ⟨wr.heap.size, 2, none⟩ (.slice A4 (levels x).length c4))
               obtain ⟨W5, hW5⟩ : ∃ W5, (((w4.setCell ⟨wr.heap.size, 0, none⟩ (.int .i64 sn)).setCell ⟨wr.heap.size, 1, none⟩ (.int .i64 m0)).setCell ⟨wr.heap.size, 2, none⟩ (.slice A4 (levels x).length c4)) = W5 := ⟨_, rfl⟩
               rw [hW5] at hz hB5 hS5 ⊢
               clear hW5)
          all_goals
            obtain ⟨z0, z1, z2, _⟩ := blk3 hz
            have q2 := (hB5.cell (p := ⟨w.heap.size, 2, none⟩) hb1).trans r2
            have HEQ := Lib.hid (fun W6 (h6 : Drew W5 W6) => eqLevels_any A4 (some ⟨b, off, none⟩) c4 c (levels x).length l.length _ (Bl w.heap.size) (levels x) l _ W6 rfl rfl rfl (hS5.drew h6) ((H1.out _ (hB0.trans (hB5.mono hB0.size))).drew h6) (by have := levels_len x; have := hl0N.out; omega) (by omega))
            clear hS5 hz r0 r1 r2 g0 hc0 HAB HC
            go_wp2_with fail
            refine (HEQ.out W5 (Drew.refl _)).mono ?_
            rintro e W6 ⟨rfl, h6⟩
            have hB6 := hB0.trans ((hB5.mono hB0.size).trans (h6.below _))
            clear HEQ
            obtain ⟨rb, hrb⟩ : ∃ rb, rb = decide (levels x = l) := ⟨_, rfl⟩
            rw [← hrb]
            have hrr : Hid (r = if rb = true then 0 else 22) := by
              have h1 := HR.out
              rw [HCT.out, hst.out, hhd.out] at h1
              rw [Hid, ← h1, hrb]
              by_cases hh : levels x = l
              · simp [hh]
              · simp [hh]
            clear hrb HR HCT
            cases rb
            · go_wp2_with fail
              go_ret
              rw [hrr.out]
              exact ⟨rfl, hB6⟩
            · go_wp2_with fail
              go_ret
              rw [hrr.out]
              exact ⟨rfl, hB6⟩
        · have hm0' : ((m : Int) != 0) = true := by simp; omega
          have hf : Hid (shC N l = false) := by rw [Hid, HSE.out]; simp [hm0]
          clear hm0
          go_wp2_with fail
          go_ret
          rw [← HR.out, HCT.out, hf.out]
          exact ⟨rfl, hB0⟩
  · have h0' : (limN s lf != 0) = true := by simp [hl0]
    have HCT : Hid (checkT (s, lf, l) = limN s lf) := by rw [Hid, checkT, if_pos hl0]
    clear hl0
    go_wp2_with fail
    go_ret
    rw [← HR.out, HCT.out]
    exact ⟨rfl, hB0⟩
end Go.Proofs.Ythneomehfmjbkaa
