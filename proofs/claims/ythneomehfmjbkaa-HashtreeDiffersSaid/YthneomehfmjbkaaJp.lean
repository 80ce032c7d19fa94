/-
  The reference's Extents: the walk.
-/
import Derived.Test.YthneomehfmjbkaaJm
set_option linter.unusedVariables false
set_option linter.unusedSimpArgs false
set_option linter.unusedSectionVars false
set_option linter.unnecessarySimpa false
namespace Go.Proofs.Ythneomehfmjbkaa
open Go.RowKit Go.Shelf
attribute [local go_sem] Oper.semAt_some

theorem extStep_more {out : List Ext} {s c : Int} {e : Ext} (h : out.getLast? = some (s, c)) (he : s + c = e.1) : extStep out e = out.set (out.length - 1) (s, c + e.2) := by
  unfold extStep
  rw [h]
  show (if s + c = e.1 then out.dropLast ++ [(s, c + e.2)] else out ++ [e]) = _
  rw [if_pos he]
  obtain ⟨l, rfl⟩ := List.getLast?_eq_some_iff.1 h
  simp
theorem extStep_new {out : List Ext} {e : Ext} (h : ∀ s c, out.getLast? = some (s, c) → s + c ≠ e.1) : extStep out e = out ++ [e] := by
  unfold extStep
  cases hq : out.getLast? with
  | none => rw [List.getLast?_eq_none_iff.1 hq]; rfl
  | some x =>
    obtain ⟨s, c⟩ := x
    show (if s + c = e.1 then out.dropLast ++ [(s, c + e.2)] else out ++ [e]) = _
    rw [if_neg (h s c hq)]
/-- the extents of some leaves: each within 4096 -/
theorem exts_bound {n m : Nat} (hn : n ≤ 4096) (hm : 1 ≤ m) {is : List Nat} (hs : is.Pairwise (· < ·)) (hr : ∀ i ∈ is, i < leavesN n m) : (∀ e ∈ extsL (is.map (leafE n m)), 0 ≤ e.1 ∧ 0 < e.2 ∧ e.1 + e.2 ≤ 4096) ∧ (extsL (is.map (leafE n m))).length ≤ 4096 := by
  obtain ⟨p, r⟩ := leaf_exts hn hm hs hr
  rw [← opL_exts p r]
  exact opL_bound _ _ _
theorem exts_take {n m : Nat} {is : List Nat} {k : Nat} (hk : k < is.length) : extsL ((is.take (k + 1)).map (leafE n m)) = extStep (extsL ((is.take k).map (leafE n m))) (leafE n m is[k]) := by
  rw [List.take_succ_eq_append_getElem hk, List.map_append, List.map_singleton, extsL_snoc]
set_option maxHeartbeats 4000000 in
theorem refExts_any (n m L c : Nat) (A : Option Addr) (is : List Nat) (w : World) (hL : (toI is).length = L) (hn : n ≤ 4096) (hm : 1 ≤ m ∧ m ≤ 4096) (hs : is.Pairwise (· < ·)) (hr : ∀ i ∈ is, i < leavesN n m) (h1 : SlAt encInt w (Bl w.heap.size) A (toI is)) (hl : L ≤ 4096) :
    Calls Try.prog 47 #[.int .i64 n, .int .i64 m, .slice A L c] w (RetSl encExt (extsL (is.map (leafE n m))) w) := by
  subst hL
  have H1 : Hid (∀ w', Below w.heap.size w w' → SlAt encInt w' (Bl w.heap.size) A (toI is)) := fun w' hb => h1.below hb
  clear h1
  obtain ⟨hm1, hm2⟩ := hm
  have HS := Lib.hid hs; clear hs
  have HR := Lib.hid hr; clear hr
  have hnI : (n : Int) ≤ 4096 := by omega
  have hmI : (m : Int) ≤ 4096 := by omega
  have hmI1 : (1 : Int) ≤ m := by omega
  rw [toI_len] at hl ⊢
  go_enter Try.func47, Try.ntmps47
  go_wp2
  go_loopw [7, 8] (fun v i wr => ∃ (k : Nat) (B : Option Addr) (vc : Nat) (out : List Ext), k ≤ is.length ∧ i = .int .i64 k ∧ v = .slice B out.length vc ∧ Below w.heap.size w wr ∧ Hid (out = extsL ((is.take k).map (leafE n m))) ∧ Own encExt wr w.heap.size 35 (fun _ => False) (.slice B out.length vc) out) (fun _ i _ => is.length - (intOf i).toNat)
  case atStart => exact ⟨0, none, 0, [], by omega, rfl, rfl, Below.refl _ _, rfl, Own.nil_⟩
  case round =>
    obtain ⟨wo, rfl⟩ : ∃ wo : World, wo = wr := ⟨_, rfl⟩
    obtain ⟨k, B, vc, out, hk, rfl, rfl, hB, hout, hown⟩ := hrel
    have hszo := hB.size
    by_cases hlt : k < is.length
    · have hlt' : k < (toI is).length := by rw [toI_len]; exact hlt
      have hki : (k : Int) < (toI is).length := by omega
      have hnn : (0 : Int) ≤ k := by omega
      obtain ⟨b, off, rfl, hb, hc, hi64⟩ := (H1.out wo hB).int hlt'
      rw [toI_at hlt] at hc
      have hib := HR.out is[k] (List.getElem_mem hlt)
      have hlf := leaf_lt hm1 hib
      have hst := exts_take (n := n) (m := m) hlt
      rw [← hout.out] at hst
      have hbd := exts_bound hn hm1 (is := is.take k) (HS.out.sublist (List.take_sublist _ _)) (fun i hi => HR.out i (List.mem_of_mem_take hi))
      rw [← hout.out] at hbd
      have HBD := Lib.hid hbd.1
      have hol := hbd.2
      clear hbd
      obtain ⟨i, hi⟩ : ∃ i, is[k] = i := ⟨_, rfl⟩
      rw [hi] at hc hib hlf hst
      obtain ⟨a, ha⟩ : ∃ a, i * m = a := ⟨_, rfl⟩
      have hmul : (i : Int) * (m : Int) = (a : Int) := by rw [← ha]; simp
      rw [ha] at hlf
      obtain ⟨q, hq⟩ : ∃ q : Int, min (n : Int) ((a : Int) + m) - a = q := ⟨_, rfl⟩
      have hee : leafE n m i = ((a : Int), q) := by unfold leafE; rw [ha, ← hq]; congr 1; omega
      rw [hee] at hst
      have HST := Lib.hid hst
      have hbo : b < wo.heap.size := Nat.lt_of_lt_of_le hb hszo
      have hi0 : (0 : Int) ≤ i := by omega
      have ha0 : (0 : Int) ≤ a := by omega
      have ha4 : (a : Int) < n := by omega
      clear hee hi ha hst hib hi64 hlt'
      go_upto_region 5 with (fail)
      go_region
      try rw [hq]
      obtain ⟨W5, hW5⟩ : ∃ W5, (wo.alloc (.cells #[.int .i64 a, .int .i64 q] 35)).drew = W5 := ⟨_, rfl⟩
      have hb5 : Below wo.heap.size wo W5 := by rw [← hW5]; exact (ext_alloc (Below.refl _ _)).drew
      have hB5 : Below w.heap.size w W5 := hB.trans (hb5.mono hszo)
      have hown5 : Hid (Own encExt W5 w.heap.size 35 (fun _ => False) (.slice B out.length vc) out) := hown.below hb5 (fun _ h => h.elim)
      have hrow5 : W5.heap[wo.heap.size]? = some (.cells #[.int .i64 a, .int .i64 q] 35 (0, 0)) := by rw [← hW5]; exact heap_alloc_new _ _
      have hs5 : wo.heap.size < W5.heap.size := by rw [← hW5]; simp [World.drew]
      rw [hW5]
      obtain ⟨p0, p1, _⟩ := blk2 hrow5
      have i1 : I64 (a : Int) := by unfold I64; omega
      have i2 : I64 q := by unfold I64; omega
      have hq4 : q ≤ 4096 := by omega
      have hq0 : 0 < q := by omega
      clear hW5 hc hrow5 hq hmul hown
      by_cases h0 : out.length = 0
      · have hg0 : decide (0 < out.length) = false := decide_eq_false (by omega)
        have hnw : Hid (extStep out ((a : Int), q) = out ++ [((a : Int), q)]) := extStep_new (fun s cc hg => by
          rw [List.eq_nil_of_length_eq_zero h0] at hg; simp at hg)
        clear h0
        go_upto_region 7 with (fail)
        go_quiet (fail)
        generalize hW6 : W5.drewN nq = W6
        have hd6 : Drew W5 W6 := ⟨nq, hW6.symm⟩
        have hB6 : Below w.heap.size w W6 := hB5.trans ((hd6.below _).mono hB5.size)
        have hown6 := Lib.hid (hown5.out.below (hd6.below _) (fun _ h => h.elim))
        have r0 := (hd6.cell ⟨wo.heap.size, 0, none⟩).trans p0
        have r1 := (hd6.cell ⟨wo.heap.size, 1, none⟩).trans p1
        have hsz6 : wo.heap.size < W6.heap.size := Nat.lt_of_lt_of_le hs5 (hd6.below 0).size
        clear hW6 p0 p1
        have HO := Lib.hid (hown6.out.alloc (fun _ h => h.elim) (.cells #[.int .i64 a, .int .i64 q] 35))
        have s1 : w.heap.size ≤ (W6.alloc (.cells #[.int .i64 a, .int .i64 q] 35)).heap.size := by simp; omega
        have s2 : out.length + 1 ≤ maxLen := by simp [maxLen]; omega
        have s3 : (out.length + 1) * 16 ≤ 140737488355328 := by omega
        go_wp2_with (at_builtin; refine wpList_app1 (E := encExt) tyExtsI rfl _ _ rfl rfl HO.out ((a : Int), q) [.int .i64 a, .int .i64 q] rfl (ext_mk (x := ((a : Int), q)) i1 i2) (heap_alloc_new _ _) (fun _ h => h.elim) s1 s2 s3 ?_; intro A' c' w1 hown2 hg hat)
        go_roundw
        case rel =>
          refine ⟨k + 1, A', c', out ++ [((a : Int), q)], hlt, by go_num, by simp, ?_, ?_, ?_⟩
          · exact (hB6.alloc hB6.size _).grown hg s1 (fun g h => (hown6.out.lt g h).1)
          · rw [HST.out, hnw.out]; exact rfl
          · simpa using hown2
        case measure => simp [intOf]; omega
      · have hg0 : decide (0 < out.length) = true := decide_eq_true (by omega)
        obtain ⟨s, cc, hlast⟩ : ∃ s cc, out[out.length - 1]'(by omega) = (s, cc) := ⟨_, _, rfl⟩
        have hgl : out.getLast? = some (s, cc) := by rw [List.getLast?_eq_getElem?, List.getElem?_eq_getElem (by omega), hlast]
        have hsn := HBD.out (s, cc) (List.mem_of_getLast? hgl)
        simp only at hsn
        obtain ⟨hsn0, hcc0, hsn4⟩ := hsn
        obtain ⟨g, cs, rfl, hg1, hg2, _, hcell, hfz, hrd⟩ := hown5.out.elem (i := out.length - 1) (by omega)
        obtain ⟨rfl, _, _⟩ := ext_cs hrd
        rw [hlast] at hcell
        have d0 := hcell 0 _ rfl
        have d1 := hcell 1 _ rfl
        have e4 : ((out.length : Int) - 1).toNat = out.length - 1 := by omega
        have e5 : (1 : Int) ≤ out.length := by omega
        simp only [show encExt.size = 2 from rfl, Nat.add_zero] at d0 d1
        by_cases hj : s + cc = (a : Int)
        · have hj' : (s + cc == (a : Int)) = true := by simp [hj]
          have hmore : Hid (extStep out ((a : Int), q) = out.set (out.length - 1) (s, cc + q)) := extStep_more hgl hj
          clear hj hgl hcell hrd
          go_upto_region 7 with (fail)
          go_quiet (fail)
          generalize hW6 : W5.drewN nq = W6
          have hd6 : Drew W5 W6 := ⟨nq, hW6.symm⟩
          have hB6 : Below w.heap.size w W6 := hB5.trans ((hd6.below _).mono hB5.size)
          have hown6 := Lib.hid (hown5.out.below (hd6.below _) (fun _ h => h.elim))
          have r0 := (hd6.cell ⟨wo.heap.size, 0, none⟩).trans p0
          have r1 := (hd6.cell ⟨wo.heap.size, 1, none⟩).trans p1
          have hsz6 : wo.heap.size < W6.heap.size := Nat.lt_of_lt_of_le hs5 (hd6.below 0).size
          clear hW6 p0 p1
          have hst6 := Lib.hid (hown6.out.stored (i := out.length - 1) (j := 1) (by omega) (by decide) (.int .i64 (cc + q)) (s, cc + q) (fun cs hr => by
              obtain ⟨rfl, _, _⟩ := ext_cs hr
              rw [hlast]
              exact ext_mk (x := (s, cc + q)) (by unfold I64; simp only; omega) (by unfold I64; simp only; omega)))
          have f0 := (hd6.cell ⟨g, (out.length - 1) * 2, none⟩).trans d0
          have f1 := (hd6.cell ⟨g, (out.length - 1) * 2 + 1, none⟩).trans d1
          have hfz6 : W6.frozen? ⟨g, (out.length - 1) * 2 + 1, none⟩ = false := by
            obtain ⟨g', cs', he', _, _, _, _, hfz', _⟩ := hown6.out.elem (i := out.length - 1) (by omega)
            injection he' with he'
            injection he' with he'
            rw [he']
            exact hfz' _
          clear d0 d1 hlast hd6
          go_upto_region 8 with (fail)
          go_region
          go_wp2
          go_roundw
          case rel =>
            simp only [show encExt.size = 2 from rfl] at hst6
            refine ⟨k + 1, some ⟨g, 0, none⟩, vc, out.set (out.length - 1) (s, cc + q), hlt, by go_num, by simp, ext_drew (hB6.setCell (p := ⟨g, (out.length - 1) * 2 + 1, none⟩) hg1 _), by rw [HST.out, hmore.out]; exact rfl, ?_⟩
            have := hst6.out.below (w' := (W6.setCell ⟨g, (out.length - 1) * 2 + 1, none⟩ (.int .i64 (cc + q))).drew) (Drew.below ⟨1, rfl⟩ _) (fun _ h => h.elim)
            simpa using this
          case measure => simp [intOf]; omega
        · have hj' : (s + cc == (a : Int)) = false := by simp [hj]
          have hnw : Hid (extStep out ((a : Int), q) = out ++ [((a : Int), q)]) := extStep_new (fun s' c' hg => by
            rw [hgl] at hg
            simp only [Option.some.injEq, Prod.mk.injEq] at hg
            obtain ⟨rfl, rfl⟩ := hg
            exact hj)
          clear hj hgl hcell
          go_upto_region 7 with (fail)
          go_quiet (fail)
          generalize hW6 : W5.drewN nq = W6
          have hd6 : Drew W5 W6 := ⟨nq, hW6.symm⟩
          have hB6 : Below w.heap.size w W6 := hB5.trans ((hd6.below _).mono hB5.size)
          have hown6 := Lib.hid (hown5.out.below (hd6.below _) (fun _ h => h.elim))
          have r0 := (hd6.cell ⟨wo.heap.size, 0, none⟩).trans p0
          have r1 := (hd6.cell ⟨wo.heap.size, 1, none⟩).trans p1
          have hsz6 : wo.heap.size < W6.heap.size := Nat.lt_of_lt_of_le hs5 (hd6.below 0).size
          clear hW6 p0 p1
          clear d0 d1 hd6 hfz hg1 hg2
          have HO := Lib.hid (hown6.out.alloc (fun _ h => h.elim) (.cells #[.int .i64 a, .int .i64 q] 35))
          have s1 : w.heap.size ≤ (W6.alloc (.cells #[.int .i64 a, .int .i64 q] 35)).heap.size := by simp; omega
          have s2 : out.length + 1 ≤ maxLen := by simp [maxLen]; omega
          have s3 : (out.length + 1) * 16 ≤ 140737488355328 := by omega
          go_wp2_with (at_builtin; refine wpList_app1 (E := encExt) tyExtsI rfl _ _ rfl rfl HO.out ((a : Int), q) [.int .i64 a, .int .i64 q] rfl (ext_mk (x := ((a : Int), q)) i1 i2) (heap_alloc_new _ _) (fun _ h => h.elim) s1 s2 s3 ?_; intro A' c' w1 hown2 hg hat)
          go_roundw
          case rel =>
            refine ⟨k + 1, A', c', out ++ [((a : Int), q)], hlt, by go_num, by simp, ?_, ?_, ?_⟩
            · exact (hB6.alloc hB6.size _).grown hg s1 (fun g h => (hown6.out.lt g h).1)
            · rw [HST.out, hnw.out]; exact rfl
            · simpa using hown2
          case measure => simp [intOf]; omega
    · have hkk : k = is.length := by omega
      subst hkk
      go_wp2
      go_ret
      have e := hout.out
      rw [List.take_length] at e
      rw [← e]
      exact Ret.sl ⟨_, rfl, hown.rd (fun _ h => h.elim), hB⟩
end Go.Proofs.Ythneomehfmjbkaa
