/-
  The walks of Add, List, Extents (the reference): marks of sectors, and their runs.
-/
import Derived.Test.YtfahbhjlkdcnpaaMap
import Derived.Test.YtfahbhjlkdcnpaaLaws
import Derived.Test.YtfahbhjlkdcnpaaPd
set_option linter.unusedVariables false
set_option linter.unusedSimpArgs false
set_option linter.unusedSectionVars false
set_option linter.unnecessarySimpa false
namespace Go.Proofs.Ytfahbhjlkdcnpaa
open Go.RowKit

theorem tyExts : SliceTy Try.prog 42 68 2 16 := sliceTy_mk (z := .agg #[.int .i64 0, .int .i64 0]) Try.underlying42 (by kernel_rfl) rfl (by decide)
/-- a row of marks, whole -/
def BRow (w : World) (b : Nat) (m : List Bool) : Prop := w.heap[b]? = some (.cells (m.map Value.bool).toArray 4 (0, 0))
section
variable {w w' : World} {b k : Nat} {m : List Bool}
theorem BRow.lt (h : BRow w b m) : b < w.heap.size := (Array.getElem?_eq_some_iff.1 h).1
theorem BRow.cell (h : BRow w b m) (hk : k < m.length) : w.cell? ⟨b, k, none⟩ = some (.bool m[k]) := by
  rw [cell_of_row w b k _ _ _ h]
  simp [hk]
theorem BRow.frozen (h : BRow w b m) (k : Nat) : w.frozen? ⟨b, k, none⟩ = false := by
  unfold BRow at h; simp [World.frozen?, h]
theorem BRow.set (h : BRow w b m) (k : Nat) (q : Bool) : BRow (w.setCell ⟨b, k, none⟩ (.bool q)) b (m.set k q) := by
  unfold BRow at h ⊢
  simp [World.setCell, Array.getElem?_modify, h]
theorem BRow.blk (h : BRow w b m) (hk : w'.heap[b]? = w.heap[b]?) : BRow w' b m := by unfold BRow at h ⊢; rw [hk]; exact h
end
def addTo (m : List Bool) (lo k : Nat) : List Bool := m.mapIdx fun i x => x || decide (lo ≤ i ∧ i < k)
def addM (m : List Bool) (e : Ext) : List Bool := m.mapIdx fun i x => x || decide (e.1 ≤ i ∧ (i : Int) < e.1 + e.2)
theorem addTo_len (m : List Bool) (lo k : Nat) : (addTo m lo k).length = m.length := by simp [addTo]
theorem addM_len (m : List Bool) (e : Ext) : (addM m e).length = m.length := by simp [addM]
theorem addTo_lo (m : List Bool) (lo : Nat) : addTo m lo lo = m := by
  refine List.ext_getElem (by simp [addTo]) fun i h1 h2 => ?_
  have : ¬ (lo ≤ i ∧ i < lo) := by omega
  simp [addTo]; omega
theorem addTo_succ (m : List Bool) (lo k : Nat) (h : lo ≤ k) : (addTo m lo k).set k true = addTo m lo (k + 1) := by
  refine List.ext_getElem (by simp [addTo]) fun i h1 h2 => ?_
  rw [List.getElem_set]
  split
  · subst_vars; simp [addTo]; omega
  · simp only [addTo, List.getElem_mapIdx]
    congr 1
    rw [decide_eq_decide]; omega
theorem addTo_hi (m : List Bool) (e : Ext) (lo k : Nat) (h : ∀ i : Nat, i < m.length → ((lo ≤ i ∧ i < k) ↔ (e.1 ≤ i ∧ (i : Int) < e.1 + e.2))) : addTo m lo k = addM m e := by
  refine List.ext_getElem (by simp [addTo, addM]) fun i h1 h2 => ?_
  simp only [addTo, addM, List.getElem_mapIdx]
  congr 1
  rw [decide_eq_decide]
  exact h i (by simpa [addTo] using h1)
theorem addM_none (m : List Bool) (e : Ext) (h : ∀ i : Nat, i < m.length → ¬ (e.1 ≤ i ∧ (i : Int) < e.1 + e.2)) : addM m e = m := by
  refine List.ext_getElem (by simp [addM]) fun i h1 h2 => ?_
  have := h i h2
  simp [addM]; omega

def AddRet (m' : List Bool) (b : Nat) (w : World) (e : Ending) (w' : World) : Prop := (∃ v, e = .returned v) ∧ BRow w' b m' ∧ w.grownBy w' (some b)

theorem grown_set {w wr : World} {b k : Nat} {u : Value} (h : w.grownBy wr (some b)) : w.grownBy (wr.setCell ⟨b, k, none⟩ u) (some b) :=
  ⟨h.os, h.tape, h.output, by simpa [World.setCell] using h.size, fun i hi hne => (Below.heap_setCell wr _ u i (fun e => hne (by rw [e]))).trans (h.block i hi hne)⟩
set_option maxHeartbeats 1000000 in
theorem add_any (b c : Nat) (m : List Bool) (s n : Int) (w : World) (h : BRow w b m) (hm : m.length ≤ 4096) (hs : I64 s) (hn : I64 n) :
    Calls Try.prog 58 #[.slice (some ⟨b, 0, none⟩) m.length c, .agg #[.int .i64 s, .int .i64 n]] w (AddRet (addM m (s, n)) b w) := by
  obtain ⟨hs1, hs2⟩ := hs
  obtain ⟨hn1, hn2⟩ := hn
  have hlt := h.lt
  have H := Lib.hid h; clear h
  have hend : Hid (∀ o, w.grownBy (w.alloc o) (some b)) := fun o => World.grownBy_alloc w o _
  have hrow0 : Hid (∀ o, BRow (w.alloc o) b m) := fun o => H.out.blk (Below.heap_alloc _ _ _ hlt)
  by_cases c1 : n ≤ 0
  · go_enter Try.func58, Try.ntmps58
    go_wp2
    refine bodyPost_ret (results_none rfl _ _ _) rfl ?_
    refine ⟨⟨_, rfl⟩, ?_, hend.out _⟩
    rw [addM_none m (s, n) (fun i _ => by simp only; omega)]
    exact hrow0.out _
  · by_cases c2 : (m.length : Int) ≤ s
    · go_enter Try.func58, Try.ntmps58
      go_wp2
      refine bodyPost_ret (results_none rfl _ _ _) rfl ?_
      refine ⟨⟨_, rfl⟩, ?_, hend.out _⟩
      rw [addM_none m (s, n) (fun i _ => by simp only; omega)]
      exact hrow0.out _
    · have hbne : b ≠ w.heap.size := by omega
      by_cases c3 : s < 0
      · by_cases c4 : (m.length : Int) ≤ s + n
        · go_enter Try.func58, Try.ntmps58
          go_wp2
          all_goals
            go_loopw [6] (fun i wr => ∃ k : Nat, 0 ≤ k ∧ ((k : Int) ≤ 0 ∨ (k : Int) ≤ (m.length : Int)) ∧ i = .int .i64 k ∧ Hid (BRow wr b (addTo m 0 k)) ∧ Hid (w.grownBy wr (some b))) (fun i _ => ((m.length : Int) - intOf i).toNat)
            case atStart => exact ⟨0, Nat.le_refl _, Or.inl (by omega), rfl, by rw [addTo_lo]; exact hrow0.out _, hend.out _⟩
            case round =>
              obtain ⟨k, hk0, hk1, rfl, hr, hg⟩ := hrel
              by_cases hlt2 : (k : Int) < (m.length : Int)
              · have hkl : k < m.length := by omega
                have hc := hr.out.cell (k := k) (by rw [addTo_len]; exact hkl)
                have hf := hr.out.frozen k
                have hki : (k : Int) < m.length := by omega
                have hnn : (0 : Int) ≤ k := by omega
                go_wp2
                go_roundw
                case rel => exact ⟨k + 1, by omega, Or.inr (by omega), by go_num, by rw [← addTo_succ m _ k hk0]; exact hr.out.set k true, grown_set hg.out⟩
                case measure => simp [intOf]; omega
              · go_wp2
                go_end0
                refine ⟨⟨_, rfl⟩, ?_, hg.out⟩
                rw [← addTo_hi m _ 0 k (fun i hi => by simp only; omega)]
                exact hr.out
        · go_enter Try.func58, Try.ntmps58
          go_wp2
          all_goals
            go_loopw [6] (fun i wr => ∃ k : Nat, 0 ≤ k ∧ ((k : Int) ≤ 0 ∨ (k : Int) ≤ (s + n)) ∧ i = .int .i64 k ∧ Hid (BRow wr b (addTo m 0 k)) ∧ Hid (w.grownBy wr (some b))) (fun i _ => ((s + n) - intOf i).toNat)
            case atStart => exact ⟨0, Nat.le_refl _, Or.inl (by omega), rfl, by rw [addTo_lo]; exact hrow0.out _, hend.out _⟩
            case round =>
              obtain ⟨k, hk0, hk1, rfl, hr, hg⟩ := hrel
              by_cases hlt2 : (k : Int) < (s + n)
              · have hkl : k < m.length := by omega
                have hc := hr.out.cell (k := k) (by rw [addTo_len]; exact hkl)
                have hf := hr.out.frozen k
                have hki : (k : Int) < m.length := by omega
                have hnn : (0 : Int) ≤ k := by omega
                go_wp2
                go_roundw
                case rel => exact ⟨k + 1, by omega, Or.inr (by omega), by go_num, by rw [← addTo_succ m _ k hk0]; exact hr.out.set k true, grown_set hg.out⟩
                case measure => simp [intOf]; omega
              · go_wp2
                go_end0
                refine ⟨⟨_, rfl⟩, ?_, hg.out⟩
                rw [← addTo_hi m _ 0 k (fun i hi => by simp only; omega)]
                exact hr.out
      · obtain ⟨sn, rfl⟩ := Int.eq_ofNat_of_zero_le (show 0 ≤ s by omega)
        by_cases c4 : (m.length : Int) ≤ sn + n
        · by_cases c5 : n ≤ 4096
          · go_enter Try.func58, Try.ntmps58
            go_wp2
            all_goals
              go_loopw [6] (fun i wr => ∃ k : Nat, sn ≤ k ∧ ((k : Int) ≤ sn ∨ (k : Int) ≤ (m.length : Int)) ∧ i = .int .i64 k ∧ Hid (BRow wr b (addTo m sn k)) ∧ Hid (w.grownBy wr (some b))) (fun i _ => ((m.length : Int) - intOf i).toNat)
              case atStart => exact ⟨sn, Nat.le_refl _, Or.inl (by omega), rfl, by rw [addTo_lo]; exact hrow0.out _, hend.out _⟩
              case round =>
                obtain ⟨k, hk0, hk1, rfl, hr, hg⟩ := hrel
                by_cases hlt2 : (k : Int) < (m.length : Int)
                · have hkl : k < m.length := by omega
                  have hc := hr.out.cell (k := k) (by rw [addTo_len]; exact hkl)
                  have hf := hr.out.frozen k
                  have hki : (k : Int) < m.length := by omega
                  have hnn : (0 : Int) ≤ k := by omega
                  go_wp2
                  go_roundw
                  case rel => exact ⟨k + 1, by omega, Or.inr (by omega), by go_num, by rw [← addTo_succ m _ k hk0]; exact hr.out.set k true, grown_set hg.out⟩
                  case measure => simp [intOf]; omega
                · go_wp2
                  go_end0
                  refine ⟨⟨_, rfl⟩, ?_, hg.out⟩
                  rw [← addTo_hi m _ sn k (fun i hi => by simp only; omega)]
                  exact hr.out
          · have c6 : (m.length : Int) ≤ sn + 4096 := by omega
            go_enter Try.func58, Try.ntmps58
            go_wp2
            all_goals
              go_loopw [6] (fun i wr => ∃ k : Nat, sn ≤ k ∧ ((k : Int) ≤ sn ∨ (k : Int) ≤ (m.length : Int)) ∧ i = .int .i64 k ∧ Hid (BRow wr b (addTo m sn k)) ∧ Hid (w.grownBy wr (some b))) (fun i _ => ((m.length : Int) - intOf i).toNat)
              case atStart => exact ⟨sn, Nat.le_refl _, Or.inl (by omega), rfl, by rw [addTo_lo]; exact hrow0.out _, hend.out _⟩
              case round =>
                obtain ⟨k, hk0, hk1, rfl, hr, hg⟩ := hrel
                by_cases hlt2 : (k : Int) < (m.length : Int)
                · have hkl : k < m.length := by omega
                  have hc := hr.out.cell (k := k) (by rw [addTo_len]; exact hkl)
                  have hf := hr.out.frozen k
                  have hki : (k : Int) < m.length := by omega
                  have hnn : (0 : Int) ≤ k := by omega
                  go_wp2
                  go_roundw
                  case rel => exact ⟨k + 1, by omega, Or.inr (by omega), by go_num, by rw [← addTo_succ m _ k hk0]; exact hr.out.set k true, grown_set hg.out⟩
                  case measure => simp [intOf]; omega
                · go_wp2
                  go_end0
                  refine ⟨⟨_, rfl⟩, ?_, hg.out⟩
                  rw [← addTo_hi m _ sn k (fun i hi => by simp only; omega)]
                  exact hr.out
        · go_enter Try.func58, Try.ntmps58
          go_wp2
          all_goals
            go_loopw [6] (fun i wr => ∃ k : Nat, sn ≤ k ∧ ((k : Int) ≤ sn ∨ (k : Int) ≤ (sn + n)) ∧ i = .int .i64 k ∧ Hid (BRow wr b (addTo m sn k)) ∧ Hid (w.grownBy wr (some b))) (fun i _ => ((sn + n) - intOf i).toNat)
            case atStart => exact ⟨sn, Nat.le_refl _, Or.inl (by omega), rfl, by rw [addTo_lo]; exact hrow0.out _, hend.out _⟩
            case round =>
              obtain ⟨k, hk0, hk1, rfl, hr, hg⟩ := hrel
              by_cases hlt2 : (k : Int) < (sn + n)
              · have hkl : k < m.length := by omega
                have hc := hr.out.cell (k := k) (by rw [addTo_len]; exact hkl)
                have hf := hr.out.frozen k
                have hki : (k : Int) < m.length := by omega
                have hnn : (0 : Int) ≤ k := by omega
                go_wp2
                go_roundw
                case rel => exact ⟨k + 1, by omega, Or.inr (by omega), by go_num, by rw [← addTo_succ m _ k hk0]; exact hr.out.set k true, grown_set hg.out⟩
                case measure => simp [intOf]; omega
              · go_wp2
                go_end0
                refine ⟨⟨_, rfl⟩, ?_, hg.out⟩
                rw [← addTo_hi m _ sn k (fun i hi => by simp only; omega)]
                exact hr.out

theorem list_skip (m : List Bool) (k : Nat) (hk : k < m.length) (h : m[k] = false) : runsL (idxs (m.take (k + 1))) = runsL (idxs (m.take k)) := by
  rw [List.take_succ_eq_append_getElem hk, idxs_snoc, h]; simp
theorem list_step (m : List Bool) (k : Nat) (hk : k < m.length) (h : m[k] = true) : runsL (idxs (m.take (k + 1))) = runStep (runsL (idxs (m.take k))) k := by
  rw [List.take_succ_eq_append_getElem hk, idxs_snoc, h]
  simp only [if_true]
  rw [runsL_snoc, List.length_take, Nat.min_eq_left (by omega)]
theorem list_end (m : List Bool) (k : Nat) (hk : k < m.length) : (∃ s c, (runsL (idxs (m.take (k + 1)))).getLast? = some (s, c) ∧ s + c = ((k + 1 : Nat) : Int)) ↔ m[k] = true := by
  have := run_end (m.take (k + 1))
  rw [List.length_take, Nat.min_eq_left (by omega)] at this
  rw [this, List.take_succ_eq_append_getElem hk, List.getLast?_concat]
  simp
theorem list_bound (m : List Bool) (k : Nat) (hk : k ≤ m.length) : (∀ e ∈ runsL (idxs (m.take k)), 0 ≤ e.1 ∧ 0 < e.2 ∧ e.1 + e.2 ≤ k) ∧ (runsL (idxs (m.take k))).length ≤ k := by
  have h := runsL_bound k (idxs (m.take k)) (fun x hx => by
    have := idxs_mem _ x hx
    rw [List.length_take, Nat.min_eq_left hk] at this
    exact this)
  refine ⟨h.1, Nat.le_trans h.2 ?_⟩
  have := idxs_len (m.take k)
  rw [List.length_take, Nat.min_eq_left hk] at this
  exact this

set_option maxHeartbeats 1000000 in
theorem list_any (b c : Nat) (m : List Bool) (w : World) (h : BRow w b m) (hm : m.length ≤ 4096) :
    Calls Try.prog 59 #[.slice (some ⟨b, 0, none⟩) m.length c] w (Ret (encSl encExt) (runsL (idxs m)) w) := by
  have hlt := h.lt
  have H : Hid (∀ w', Below w.heap.size w w' → BRow w' b m) := fun w' hb => h.blk (hb.block b hlt)
  clear h
  go_enter Try.func59, Try.ntmps59
  go_wp2
  go_loopw [3, 4] (fun v i wr => ∃ (k : Nat) (A : Option Addr) (vc : Nat) (out : List Ext), k ≤ m.length ∧ i = .int .i64 k ∧ v = .slice A out.length vc ∧ Below w.heap.size w wr ∧ Hid (out = runsL (idxs (m.take k))) ∧ Own encExt wr w.heap.size 68 (fun _ => False) (.slice A out.length vc) out) (fun _ i _ => m.length - (intOf i).toNat)
  case atStart => exact ⟨0, none, 0, [], by omega, rfl, rfl, Below.refl _ _, rfl, Own.nil_⟩
  case round =>
    obtain ⟨k, A, vc, out, hk, rfl, rfl, hB, hout, hown⟩ := hrel
    by_cases hlt2 : k < m.length
    · have hc := (H.out wr hB).cell hlt2
      have hki : (k : Int) < m.length := by omega
      have hnn : (0 : Int) ≤ k := by omega
      have hbd := list_bound m k hk
      rw [← hout.out] at hbd
      obtain ⟨hbd1, hbd2⟩ := hbd
      have HBD := Lib.hid hbd1; clear hbd1
      cases hq : m[k] with
      | false =>
        rw [hq] at hc
        have HQ := Lib.hid hq; clear hq
        go_wp2
        go_roundw
        case rel => exact ⟨k + 1, A, vc, out, hlt2, by go_num, rfl, hB, by rw [list_skip m k hlt2 HQ.out]; exact hout.out, hown⟩
        case measure => simp [intOf]; omega
      | true =>
        rw [hq] at hc
        have hst := list_step m k hlt2 hq
        rw [← hout.out] at hst
        have HST := Lib.hid hst; clear hst hq
        have hsz := hB.size
        have hown1 := hown.alloc (fun _ h => h.elim) (.cells #[.int .i64 k, .int .i64 1] 68)
        have HO := Lib.hid hown1; clear hown1
        have s1 : w.heap.size ≤ (wr.alloc (.cells #[.int .i64 k, .int .i64 1] 68)).heap.size := by simp; omega
        have s2 : out.length + 1 ≤ maxLen := by simp [maxLen]; omega
        have s3 : (out.length + 1) * 16 ≤ 140737488355328 := by omega
        have i1 : I64 (k : Int) := by unfold I64; omega
        have i2 : I64 1 := by unfold I64; omega
        by_cases hk0 : k = 0
        · have hk0' : ¬ (0 : Int) < k := by omega
          have hnw : Hid (runStep out k = out ++ [((k : Int), 1)]) := runStep_new (fun s c hg => by
            have := HBD.out (s, c) (List.mem_of_getLast? hg)
            simp only at this
            omega)
          clear hk0
          go_wp2_with (at_builtin; refine wpList_app1 (E := encExt) tyExts rfl _ _ rfl rfl HO.out ((k : Int), 1) [.int .i64 k, .int .i64 1] rfl (ext_mk (x := ((k : Int), 1)) i1 i2) (heap_alloc_new _ _) (fun _ h => h.elim) s1 s2 s3 ?_; intro A' c' w1 hown2 hg hat)
          go_roundw
          case rel =>
            refine ⟨k + 1, A', c', out ++ [((k : Int), 1)], hlt2, by go_num, by simp, ?_, ?_, ?_⟩
            · exact (hB.alloc hB.size _).grown hg s1 (fun g h => (hown.lt g h).1)
            · rw [HST.out, hnw.out]; exact rfl
            · simpa using hown2
          case measure => simp [intOf]; omega
        · have hk0' : (0 : Int) < k := by omega
          have hk1 : k - 1 < m.length := by omega
          have hc2 := (H.out wr hB).cell hk1
          have e2 : (1 : Int) ≤ k := by omega
          have e3 : (k : Int) - 1 < m.length := by omega
          have e0 : k - 1 + 1 = k := by omega
          have E0 := Lib.hid e0; clear e0
          have e1 : ((k : Int) - 1).toNat = k - 1 := by omega
          have hle := list_end m (k - 1) hk1
          rw [E0.out, ← hout.out] at hle
          cases hq2 : m[k - 1] with
          | false =>
            rw [hq2] at hc2
            have hnw : Hid (runStep out k = out ++ [((k : Int), 1)]) := runStep_new (fun s c hg e => by
              have := hle.1 ⟨s, c, hg, e⟩
              rw [hq2] at this
              cases this)
            clear hle hq2 hk0
            go_wp2_with (at_builtin; refine wpList_app1 (E := encExt) tyExts rfl _ _ rfl rfl HO.out ((k : Int), 1) [.int .i64 k, .int .i64 1] rfl (ext_mk (x := ((k : Int), 1)) i1 i2) (heap_alloc_new _ _) (fun _ h => h.elim) s1 s2 s3 ?_; intro A' c' w1 hown2 hg hat)
            go_roundw
            case rel =>
              refine ⟨k + 1, A', c', out ++ [((k : Int), 1)], hlt2, by go_num, by simp, ?_, ?_, ?_⟩
              · exact (hB.alloc hB.size _).grown hg s1 (fun g h => (hown.lt g h).1)
              · rw [HST.out, hnw.out]; exact rfl
              · simpa using hown2
            case measure => simp [intOf]; omega
          | true =>
            rw [hq2] at hc2
            obtain ⟨s, n, hg, he⟩ := hle.2 hq2
            have hpos : 0 < out.length := by
              cases out with
              | nil => simp at hg
              | cons a l => simp
            have hlast : out[out.length - 1]'(by omega) = (s, n) := by
              rw [List.getLast?_eq_getElem?, List.getElem?_eq_getElem (by omega)] at hg
              injection hg
            have hmore : Hid (runStep out k = out.set (out.length - 1) (s, n + 1)) := runStep_more hg he
            have hsn := HBD.out (s, n) (List.mem_of_getLast? hg)
            simp only at hsn
            obtain ⟨hs0, hn0, hsn⟩ := hsn
            obtain ⟨g, cs, rfl, hg1, hg2, _, hcell, hfz, hrd⟩ := hown.elem (i := out.length - 1) (by omega)
            obtain ⟨rfl, _, _⟩ := ext_cs hrd
            rw [hlast] at hcell
            have d0 := hcell 0 _ rfl
            have d1 := hcell 1 _ rfl
            have e4 : ((out.length : Int) - 1).toNat = out.length - 1 := by omega
            have e5 : (1 : Int) ≤ out.length := by omega
            have hst := Lib.hid (hown.stored (i := out.length - 1) (j := 1) (by omega) (by decide) (.int .i64 (n + 1)) (s, n + 1) (fun cs hr => by
              obtain ⟨rfl, _, _⟩ := ext_cs hr
              rw [hlast]
              exact ext_mk (x := (s, n + 1)) (by unfold I64; simp only; omega) (by unfold I64; simp only; omega)))
            have HL := Lib.hid hlast
            clear hle hq2 hk0 hcell hrd hlast hg he HO
            simp only [show encExt.size = 2 from rfl, Nat.add_zero] at d0 d1 hst
            go_wp2
            go_roundw
            case rel =>
              refine ⟨k + 1, some ⟨g, 0, none⟩, vc, out.set (out.length - 1) (s, n + 1), hlt2, by go_num, by simp, hB.setCell (by simpa using hg1) _, ?_, ?_⟩
              · rw [HST.out, hmore.out]; exact rfl
              · simpa using hst.out
            case measure => simp [intOf]; omega
    · have hkk : k = m.length := by omega
      subst hkk
      go_wp2
      go_ret
      refine ⟨_, rfl, ?_, hB⟩
      have e := hout.out
      rw [List.take_length] at e
      rw [← e]
      exact hown.rd (fun _ h => h.elim)
end Go.Proofs.Ytfahbhjlkdcnpaa
