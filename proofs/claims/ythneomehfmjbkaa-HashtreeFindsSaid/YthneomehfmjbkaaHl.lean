/-
  The reference's comparisons of levels and trees.
-/
import Derived.Test.YthneomehfmjbkaaHk
set_option linter.unusedVariables false
set_option linter.unusedSimpArgs false
set_option linter.unusedSectionVars false
set_option linter.unnecessarySimpa false
namespace Go.Proofs.Ythneomehfmjbkaa
open Go.RowKit Go.Shelf
attribute [local go_sem] Oper.semAt_some

theorem take_step {α : Type} {l m : List α} {k : Nat} (h1 : k < l.length) (h2 : k < m.length) (h : l.take k = m.take k) (he : l[k] = m[k]) : l.take (k + 1) = m.take (k + 1) := by
  rw [List.take_succ_eq_append_getElem h1, List.take_succ_eq_append_getElem h2, h, he]
set_option maxHeartbeats 4000000 in
theorem sameLevels_any (A A' : Option Addr) (c c' n n' : Nat) (S S' : Nat → Prop) (l m : List (List Int)) (r : Bool) (w : World) (hn : l.length = n) (hn' : m.length = n') (hr : decide (l = m) = r) (h1 : SlAt (encSl encU64) w S A l) (h2 : SlAt (encSl encU64) w S' A' m) (hs : n ≤ 9223372036854775807) (ht : n' ≤ 9223372036854775807) :
    Calls Try.prog 44 #[.slice A n c, .slice A' n' c'] w fun e w' => e = .returned (.bool r) ∧ Drew w w' := by
  subst hn hn'
  have HR := Lib.hid hr; clear hr
  by_cases hl : l.length = m.length
  · have hl' : (((l.length : Nat) : Int) != (m.length : Int)) = false := by simp [hl]
    have HL := Lib.hid hl; clear hl
    go_enter Try.func44, Try.ntmps44
    go_wp2
    go_loopw [5] (fun i wr => ∃ k : Nat, k ≤ l.length ∧ i = .int .i64 k ∧ Drew w wr ∧ Hid (l.take k = m.take k)) (fun i _ => l.length - (intOf i).toNat)
    case atStart => exact ⟨0, by omega, rfl, Drew.refl _, by simp [Hid]⟩
    case round =>
      obtain ⟨wo, rfl⟩ : ∃ wo : World, wo = wr := ⟨_, rfl⟩
      obtain ⟨k, hk, rfl, hd, hp⟩ := hrel
      replace h1 := h1.drew hd
      replace h2 := h2.drew hd
      by_cases hlt : k < l.length
      · have hlt2 : k < m.length := by have := HL.out; omega
        obtain ⟨b, off, D, dc, rfl, hb, g0, hD, hd1, hd2⟩ := h1.sl hlt
        obtain ⟨b', off', D', dc', rfl, hb', g0', hD', hd1', hd2'⟩ := h2.sl hlt2
        have hnn : (0 : Int) ≤ k := by omega
        have hki : (k : Int) < l.length := by omega
        have hki2 : (k : Int) < m.length := by omega
        have hmx : (l[k]'hlt).length ≤ 9223372036854775807 := by unfold maxLen at hd2; omega
        have hmx' : (m[k]'hlt2).length ≤ 9223372036854775807 := by unfold maxLen at hd2'; omega
        obtain ⟨x, hx⟩ : ∃ x, Hid (x = l[k]'hlt) := ⟨_, Lib.hid rfl⟩
        obtain ⟨y, hy⟩ : ∃ y, Hid (y = m[k]'hlt2) := ⟨_, Lib.hid rfl⟩
        rw [← hx.out] at g0 hD hmx
        rw [← hy.out] at g0' hD' hmx'
        have HD := Lib.hid hD; have HD' := Lib.hid hD'
        clear hD hD' hd1 hd2 hd1' hd2' hb hb'
        by_cases hxy : x.length = y.length
        · have hxy' : ((x.length : Int) != (y.length : Int)) = false := by simp [hxy]
          have HXY := Lib.hid hxy; clear hxy
          go_wp2_with fail
          go_quiet (fail)
          go_wp2
          go_loopw [6] (fun i wr => ∃ j : Nat, j ≤ x.length ∧ i = .int .i64 j ∧ Drew wo wr ∧ Hid (x.take j = y.take j)) (fun i _ => x.length - (intOf i).toNat)
          case atStart => exact ⟨0, by omega, rfl, (Drew.refl _).step _, by simp [Hid]⟩
          case round =>
            obtain ⟨wp, rfl⟩ : ∃ wp : World, wp = wr := ⟨_, rfl⟩
            obtain ⟨j, hj, rfl, hdd, hq⟩ := hrel
            have f0 := (hdd.cell ⟨b, off + k, none⟩).trans g0
            have f0' := (hdd.cell ⟨b', off' + k, none⟩).trans g0'
            by_cases hjl : j < x.length
            · have hjl2 : j < y.length := by have := HXY.out; omega
              obtain ⟨bb, oo, rfl, _, u0, _, _⟩ := (HD.out.drew hdd).u64 hjl
              obtain ⟨bb', oo', rfl, _, u0', _, _⟩ := (HD'.out.drew hdd).u64 hjl2
              have hjn : (0 : Int) ≤ j := by omega
              have hji : (j : Int) < x.length := by omega
              have hji2 : (j : Int) < y.length := by omega
              obtain ⟨p1, hp1⟩ : ∃ p, Hid (p = x[j]'hjl) := ⟨_, Lib.hid rfl⟩
              obtain ⟨p2, hp2⟩ : ∃ p, Hid (p = y[j]'hjl2) := ⟨_, Lib.hid rfl⟩
              rw [← hp1.out] at u0
              rw [← hp2.out] at u0'
              by_cases hpp : p1 = p2
              · have hpp' : (p1 != p2) = false := by simp [hpp]
                have HPP := Lib.hid hpp; clear hpp
                go_wp2_with fail
                go_quiet (fail)
                go_wp2
                go_roundw
                case rel => exact ⟨j + 1, hjl, by go_num, hdd.step _, take_step hjl hjl2 hq.out (by rw [← hp1.out, ← hp2.out]; exact HPP.out)⟩
                case measure => simp [intOf]; omega
              · have hpp' : (p1 != p2) = true := by simp [hpp]
                have hne : Hid (decide (l = m) = false) := by
                  rw [Hid, decide_eq_false_iff_not]
                  rintro rfl
                  have e : x = y := hx.out.trans hy.out.symm
                  subst e
                  exact hpp (hp1.out.trans hp2.out.symm)
                clear hpp
                go_wp2_with fail
                go_quiet (fail)
                go_wp2
                go_ret
                rw [← HR.out, hne.out]
                exact ⟨rfl, hd.trans (hdd.step _)⟩
            · have hjj : j = x.length := by omega
              subst hjj
              have hji : ¬ ((x.length : Int) < x.length) := by omega
              have hxe : Hid (x = y) := by
                have e := hq.out
                rw [List.take_length, HXY.out, List.take_length] at e
                exact e
              go_wp2
              go_roundw
              case rel => exact ⟨k + 1, hlt, by go_num, hd.trans hdd, take_step hlt hlt2 hp.out (by rw [← hx.out, ← hy.out]; exact hxe.out)⟩
              case measure => simp [intOf]; omega
        · have hxy' : ((x.length : Int) != (y.length : Int)) = true := by simp; omega
          have hne : Hid (decide (l = m) = false) := by
            rw [Hid, decide_eq_false_iff_not]
            rintro rfl
            exact hxy (by rw [hx.out, hy.out])
          clear hxy
          go_wp2_with fail
          go_quiet (fail)
          go_wp2
          go_ret
          rw [← HR.out, hne.out]
          exact ⟨rfl, hd.step _⟩
      · have hkk : k = l.length := by omega
        subst hkk
        go_wp2
        go_ret
        have e := hp.out
        rw [List.take_length, HL.out, List.take_length] at e
        rw [← HR.out]
        exact ⟨by simp [e], hd⟩
  · have hl' : (((l.length : Nat) : Int) != (m.length : Int)) = true := by simp; omega
    have hne : Hid (decide (l = m) = false) := by
      rw [Hid, decide_eq_false_iff_not]
      rintro rfl
      exact hl rfl
    clear hl
    go_enter Try.func44, Try.ntmps44
    go_wp2
    go_ret
    rw [← HR.out, hne.out]
    exact ⟨rfl, Drew.refl _⟩
def fewT (t : Tr) : Bool := decide (t.2.2.length ≤ 12) && decide (t.1 ≤ 100) && t.2.2.all (fun l => decide (l.length ≤ 100))
set_option maxHeartbeats 4000000 in
theorem same_any (s lf s' lf' : Int) (A A' : Option Addr) (c c' n n' : Nat) (l m : List (List Int)) (r : Bool) (w : World) (hn : l.length = n) (hn' : m.length = n') (hr : decide (((s, lf, l) : Tr) = (s', lf', m)) = r) (h1 : SlAt (encSl encU64) w (Bl w.heap.size) A l) (h2 : SlAt (encSl encU64) w (Bl w.heap.size) A' m) (hs : n ≤ 9223372036854775807) (ht : n' ≤ 9223372036854775807) :
    Calls Try.prog 15 #[.agg #[.int .i64 s, .int .i64 lf, .slice A n c], .agg #[.int .i64 s', .int .i64 lf', .slice A' n' c']] w fun e w' => e = .returned (.bool r) ∧ Below w.heap.size w w' := by
  subst hn hn'
  have HR := Lib.hid hr; clear hr
  have H1 : Hid (∀ w', Below w.heap.size w w' → SlAt (encSl encU64) w' (Bl w.heap.size) A l) := fun w' hb => h1.below hb
  have H2 : Hid (∀ w', Below w.heap.size w w' → SlAt (encSl encU64) w' (Bl w.heap.size) A' m) := fun w' hb => h2.below hb
  clear h1 h2
  go_enter Try.func15, Try.ntmps15
  by_cases g1 : s = s'
  · have g1' : (s == s') = true := by simp [g1]
    have G1 := Lib.hid g1; clear g1
    by_cases g2 : lf = lf'
    · have g2' : (lf == lf') = true := by simp [g2]
      have G2 := Lib.hid g2; clear g2
      go_wp2_with fail
      obtain ⟨W0, hW0⟩ : ∃ W0, (w.alloc (.cells #[.int .i64 s, .int .i64 lf, .slice A l.length c] 26)).alloc (.cells #[.int .i64 s', .int .i64 lf', .slice A' m.length c'] 26) = W0 := ⟨_, rfl⟩
      have hB0 : Below w.heap.size w W0 := by rw [← hW0]; exact ext_alloc (ext_alloc (Below.refl _ _))
      have HC := Lib.hid (sameLevels_any A A' c c' _ _ _ _ l m (decide (l = m)) W0 rfl rfl rfl (H1.out W0 hB0) (H2.out W0 hB0) hs ht)
      rw [hW0]
      refine HC.out.mono ?_
      rintro e w1 ⟨rfl, hd1⟩
      go_wp2
      go_ret
      refine ⟨ret_bool ?_, hB0.trans (hd1.below _)⟩
      rw [← HR.out, G1.out, G2.out]
      by_cases h : l = m
      · simp [h]
      · simp [h]
    · have g2' : (lf == lf') = false := by simp [g2]
      have hne : Hid (decide (((s, lf, l) : Tr) = (s', lf', m)) = false) := by
        rw [Hid, decide_eq_false_iff_not]
        intro e
        injection e with e1 e
        injection e with e2 e
        exact g2 e2
      clear g2
      go_wp2_with fail
      go_ret
      rw [← HR.out, hne.out]
      exact ⟨rfl, ext_alloc (ext_alloc (Below.refl _ _))⟩
  · have g1' : (s == s') = false := by simp [g1]
    have hne : Hid (decide (((s, lf, l) : Tr) = (s', lf', m)) = false) := by
      rw [Hid, decide_eq_false_iff_not]
      intro e
      injection e with e1 e
      exact g1 e1
    clear g1
    go_wp2_with fail
    go_ret
    rw [← HR.out, hne.out]
    exact ⟨rfl, ext_alloc (ext_alloc (Below.refl _ _))⟩
set_option maxHeartbeats 4000000 in
theorem few_any (s lf : Int) (A : Option Addr) (c n : Nat) (l : List (List Int)) (r : Bool) (w : World) (hn : l.length = n) (hr : fewT (s, lf, l) = r) (h1 : SlAt (encSl encU64) w (Bl w.heap.size) A l) (hs : n ≤ 9223372036854775807) :
    Calls Try.prog 16 #[.agg #[.int .i64 s, .int .i64 lf, .slice A n c]] w fun e w' => e = .returned (.bool r) ∧ Below w.heap.size w w' := by
  subst hn
  have HR := Lib.hid hr; clear hr
  have H1 : Hid (∀ w', Below w.heap.size w w' → SlAt (encSl encU64) w' (Bl w.heap.size) A l) := fun w' hb => h1.below hb
  clear h1
  obtain ⟨W0, hW0⟩ : ∃ W0, w.alloc (.cells #[.int .i64 s, .int .i64 lf, .slice A l.length c] 26) = W0 := ⟨_, rfl⟩
  have hB0 : Below w.heap.size w W0 := by rw [← hW0]; exact ext_alloc (Below.refl _ _)
  have hrow : W0.heap[w.heap.size]? = some (.cells #[.int .i64 s, .int .i64 lf, .slice A l.length c] 26 (0, 0)) := by rw [← hW0]; exact heap_alloc_new _ _
  obtain ⟨r0, r1, r2, rf⟩ := blk3 hrow
  clear hrow rf
  go_enter Try.func16, Try.ntmps16
  by_cases g1 : l.length ≤ 12
  · by_cases g2 : s ≤ 100
    · have HG : Hid (fewT (s, lf, l) = l.all (fun x => decide (x.length ≤ 100))) := by simp [Hid, fewT, g1, g2]
      have hl12 : (l.length : Int) ≤ 12 := by omega
      go_wp2_with fail
      go_loopw [3] (fun i wr => ∃ k : Nat, k ≤ l.length ∧ i = .int .i64 k ∧ wr = W0 ∧ Hid ((l.take k).all (fun x => decide (x.length ≤ 100)) = true)) (fun i _ => l.length - (intOf i).toNat)
      case atStart => exact ⟨0, by omega, rfl, rfl, rfl⟩
      case round =>
        obtain ⟨k, hk, rfl, rfl, hp⟩ := hrel
        by_cases hlt : k < l.length
        · obtain ⟨b, off, D, dc, rfl, hb, g0, hD, hd1, hd2⟩ := (H1.out _ hB0).sl hlt
          have hnn : (0 : Int) ≤ k := by omega
          have hki : (k : Int) < l.length := by omega
          by_cases hx : (l[k]'hlt).length ≤ 100
          · have hx' : ((l[k]'hlt).length : Int) ≤ 100 := by omega
            go_wp2_with fail
            go_roundw
            case rel => exact ⟨k + 1, hlt, by go_num, by trivial, by rw [Hid, List.take_succ_eq_append_getElem hlt, List.all_append, hp.out]; simp [hx]⟩
            case measure => simp [intOf]; omega
          · have hx' : (100 : Int) < ((l[k]'hlt).length : Int) := by omega
            have hf : Hid (l.all (fun x => decide (x.length ≤ 100)) = false) := by
              rw [Hid, List.all_eq_false]
              exact ⟨_, List.getElem_mem hlt, by simpa using hx⟩
            go_wp2_with fail
            go_ret
            rw [← HR.out, HG.out, hf.out]
            exact ⟨rfl, hB0⟩
        · have hkk : k = l.length := by omega
          subst hkk
          go_wp2_with fail
          go_ret
          have e := hp.out
          rw [List.take_length] at e
          rw [← HR.out, HG.out, e]
          exact ⟨rfl, hB0⟩
    · have HG : Hid (fewT (s, lf, l) = false) := by simp [Hid, fewT, g2]
      have hl12 : (l.length : Int) ≤ 12 := by omega
      go_wp2_with fail
      go_ret
      rw [← HR.out, HG.out]
      exact ⟨rfl, hB0⟩
  · have HG : Hid (fewT (s, lf, l) = false) := by simp [Hid, fewT, g1]
    have hl12 : (12 : Int) < (l.length : Int) := by omega
    go_wp2_with fail
    go_ret
    rw [← HR.out, HG.out]
    exact ⟨rfl, hB0⟩
end Go.Proofs.Ythneomehfmjbkaa
