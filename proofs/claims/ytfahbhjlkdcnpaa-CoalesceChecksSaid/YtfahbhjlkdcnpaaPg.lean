/-
  The walks of Extents and pick (the reference).
-/
import Derived.Test.YtfahbhjlkdcnpaaPe
import Derived.Test.YtfahbhjlkdcnpaaPf
import Derived.Deep.OwnRows
set_option linter.unusedVariables false
set_option linter.unusedSimpArgs false
set_option linter.unusedSectionVars false
set_option linter.unnecessarySimpa false
namespace Go.Proofs.Ytfahbhjlkdcnpaa
open Go.RowKit

def noMarks : List Bool := List.replicate 4096 false
theorem rep_getD (n i : Nat) : (List.replicate n false).getD i false = false := by
  rw [List.getD_eq_getElem?_getD, List.getElem?_replicate]
  split <;> rfl
theorem map_noMarks : noMarks.map Value.bool = List.replicate 4096 (Value.bool false) := List.map_replicate
def marksOf (v : Int) (m : List Bool) (x : Wr) : List Bool := if x.1 = v then addM m (x.2.1, x.2.2.length) else m
def marksL (l : List Wr) (v : Int) : List Bool := l.foldl (marksOf v) noMarks
theorem noMarks_len : noMarks.length = 4096 := List.length_replicate ..
theorem marksL_snoc (l : List Wr) (x : Wr) (v : Int) : marksL (l ++ [x]) v = marksOf v (marksL l v) x := by simp [marksL]
theorem marksL_len (l : List Wr) (v : Int) : (marksL l v).length = 4096 := by
  induction l using snocRec with
  | h0 => exact noMarks_len
  | h1 l x ih =>
    rw [marksL_snoc, marksOf]
    split
    · rw [addM_len, ih]
    · exact ih
theorem marksL_at (l : List Wr) (v : Int) (i : Nat) (hi : i < 4096) : (marksL l v).getD i false = (look l v i).isSome := by
  induction l using snocRec with
  | h0 =>
    have : (marksL [] v).getD i false = false := by
      exact rep_getD 4096 i
    rw [this]; rfl
  | h1 l x ih =>
    rw [marksL_snoc, marksOf, look_snoc]
    by_cases hv : x.1 = v
    · rw [if_pos hv]
      have hlen := marksL_len l v
      have e : (addM (marksL l v) (x.2.1, (x.2.2.length : Int))).getD i false = ((marksL l v).getD i false || decide (x.2.1 ≤ i ∧ (i : Int) < x.2.1 + x.2.2.length)) := by
        simp [addM, hlen, hi]
      rw [e, ih]
      by_cases hh : hits x v i
      · rw [if_pos hh]; simp [hh.2.1, hh.2.2]
      · rw [if_neg hh]
        have : ¬ (x.2.1 ≤ (i : Int) ∧ (i : Int) < x.2.1 + x.2.2.length) := fun h => hh ⟨hv, h.1, h.2⟩
        simp [this]
    · rw [if_neg hv, if_neg (fun h => hv h.1)]
      exact ih
theorem idxs_marks (l : List Wr) (v : Int) : idxs (marksL l v) = secsOf l v := by
  unfold idxs secsOf
  rw [marksL_len]
  refine congrArg _ ?_
  exact List.filter_congr fun i hi => marksL_at l v i (List.mem_range.1 hi)

theorem makeMarks (w : World) : (Instr.makeSlice 97 (.int .i64 4096) (.int .i64 4096)).run Try.prog w = .ok (.slice (some ⟨w.heap.size, 0, none⟩) 4096 4096) (w.alloc (.cells (noMarks.map Value.bool).toArray 4)) := by
  have h := run_make_row' (P := Try.prog) 97 4 (.bool false) 1 Try.underlying97 (by kernel_rfl) rfl .i64 .i64 4096 (by omega) (by omega) w
  have e : (noMarks.map Value.bool).toArray = madeCells #[.bool false] 4096 := by
    apply Array.ext'
    rw [toList_madeCells_one]
    exact map_noMarks
  rw [e]
  exact h

theorem add4096 (b c : Nat) (m : List Bool) (s n : Int) (w : World) (h : BRow w b m) (hm : m.length = 4096) (hs : I64 s) (hn : I64 n) :
    Calls Try.prog 58 #[.slice (some ⟨b, 0, none⟩) 4096 c, .agg #[.int .i64 s, .int .i64 n]] w (AddRet (addM m (s, n)) b w) := by
  have := add_any b c m s n w h (by omega) hs hn
  rw [hm] at this
  exact this
set_option maxHeartbeats 1000000 in
theorem refExtents_any (A : Option Addr) (c : Nat) (l : List Wr) (V : Int) (w : World) (h1 : SlAt encWr w (Bl w.heap.size) A l) (hs : l.length ≤ 9223372036854775807) (h3 : I64 V) :
    Calls Try.prog 30 #[.slice A l.length c, .int .i64 V] w (Ret (encSl encExt) (runsL (secsOf l V)) w) := by
  have h1 : Hid (∀ w', Below w.heap.size w w' → SlAt encWr w' (Bl w.heap.size) A l) := fun w' hb => h1.below hb
  have hmk := makeMarks
  go_enter Try.func30, Try.ntmps30
  go_wp2
  go_loopw [6] (fun i wr => ∃ k : Nat, k ≤ l.length ∧ i = .int .i64 k ∧ Below w.heap.size w wr ∧ Hid (BRow wr w.heap.size (marksL (l.take k) V))) (fun i _ => l.length - (intOf i).toNat)
  case atStart => exact ⟨0, by omega, rfl, (Below.refl _ _).alloc (Nat.le_refl _) _, heap_alloc_new _ _⟩
  case round =>
    obtain ⟨k, hk, rfl, hB, hrow⟩ := hrel
    clear hmk
    by_cases hlt : k < l.length
    · have H1 := Lib.hid (h1.out wr hB)
      obtain ⟨b, off, D, dc, rfl, hb, g0, g1, g2, hD, hn1, hn2, hi1, hi2⟩ := H1.out.wr hlt
      have hbl : b < w.heap.size := hb
      have hnn : (0 : Int) ≤ k := by omega
      have hki : (k : Int) < l.length := by omega
      unfold maxLen at hn2
      by_cases hv : l[k].1 = V
      · have hv' : (l[k].1 == V) = true := by simp [hv]
        have hm : Hid (marksL (l.take (k + 1)) V = addM (marksL (l.take k) V) (l[k].2.1, (l[k].2.2.length : Int))) := by
          rw [List.take_succ_eq_append_getElem hlt, marksL_snoc, marksOf, if_pos hv]; exact rfl
        have HV := Lib.hid hv; clear hv
        have hlen := Lib.hid (marksL_len (l.take k) V)
        have hi3 : I64 (l[k].2.2.length : Int) := by unfold I64; omega
        go_wp2
        go_region_held3 (fun w' => w'.cell? ⟨b, off + k * 3 + 1, none⟩ = some (.int .i64 l[k].2.1) ∧ w'.cell? ⟨b, off + k * 3 + 2, none⟩ = some (.slice D l[k].2.2.length dc))
          (first | go_keep | exact ⟨(World.cell?_of_block (hgw.block b (Nat.lt_of_lt_of_le hbl hB.size) (by simp; omega))).trans g1, (World.cell?_of_block (hgw.block b (Nat.lt_of_lt_of_le hbl hB.size) (by simp; omega))).trans g2⟩)
          (first | (go_at_call 58; refine (add4096 _ _ (marksL (l.take k) V) _ _ wr.drew hrow.out hlen.out hi2 hi3).mono ?_; rintro e w1 ⟨⟨v, rfl⟩, hrow1, hgx⟩; have hgw : wr.grownBy w1 (some w.heap.size) := ⟨hgx.os, hgx.tape, hgx.output, hgx.size, hgx.block⟩; clear hgx))
        go_wp2
        go_roundw
        case rel =>
          refine ⟨k + 1, hlt, by go_num, hB.trans ⟨hgw.os, hgw.tape, hgw.output, hgw.size, fun i hi => hgw.block i (Nat.lt_of_lt_of_le hi hB.size) (by simp; omega)⟩, ?_⟩
          rw [hm.out]; exact hrow1
        case measure => simp [intOf]; omega
      · have hv' : (l[k].1 == V) = false := by simp [hv]
        have hm : Hid (marksL (l.take (k + 1)) V = marksL (l.take k) V) := by
          rw [List.take_succ_eq_append_getElem hlt, marksL_snoc, marksOf, if_neg hv]; exact rfl
        have HV := Lib.hid hv; clear hv
        go_wp2
        go_roundw
        case rel => exact ⟨k + 1, hlt, by go_num, hB, by rw [hm.out]; exact hrow.out⟩
        case measure => simp [intOf]; omega
    · have hkk : k = l.length := by omega
      subst hkk
      have hr := hrow.out
      rw [List.take_length] at hr
      have hlen := marksL_len l V
      have hli := Lib.hid (list_any w.heap.size 4096 (marksL l V) wr hr (by omega))
      rw [hlen, idxs_marks] at hli
      clear hlen
      go_wp2_with fail
      refine hli.out.mono ?_
      rintro e w1 ⟨v, rfl, hv, hb1⟩
      go_wp2
      go_ret
      exact ⟨v, rfl, Enc.more hv (fun _ h => h.mono hB.size (Nat.le_refl _)), hB.trans (hb1.mono hB.size)⟩
end Go.Proofs.Ytfahbhjlkdcnpaa
