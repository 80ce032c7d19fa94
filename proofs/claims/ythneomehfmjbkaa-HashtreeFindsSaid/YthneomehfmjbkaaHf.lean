/-
  The walk of the code's digest of a pair.
-/
import Derived.Test.YthneomehfmjbkaaHe
import Derived.RegionTactic
import Derived.BigRegion
import Derived.Deep.RegionLaw
import Derived.Deep.Cut
set_option linter.unusedVariables false
set_option linter.unusedSimpArgs false
set_option linter.unusedSectionVars false
set_option linter.unnecessarySimpa false
namespace Go.Proofs.Ythneomehfmjbkaa
open Go.RowKit Go.Shelf
attribute [local go_sem] Oper.semAt_some

/-- the sixteen bytes after k rounds -/
def pairRow (p q : Int) (k : Nat) : List Int := (List.range 16).map fun j => if j < 8 then (if j < k then byteOf p j else 0) else if j - 8 < k then byteOf q (j - 8) else 0
theorem pairRow_len (p q : Int) (k : Nat) : (pairRow p q k).length = 16 := by simp [pairRow]
theorem pairRow_8 (p q : Int) : pairRow p q 8 = le8 p ++ le8 q := by
  simp [pairRow, le8, List.range_succ]
theorem pairRow_step (p q : Int) (k : Nat) (hk : k < 8) : ((pairRow p q k).set k (byteOf p k)).set (8 + k) (byteOf q k) = pairRow p q (k + 1) := by
  apply List.ext_getElem
  · simp [pairRow]
  intro j h1 h2
  have hj : j < 16 := by simpa [pairRow] using h2
  simp only [List.getElem_set, pairRow, List.getElem_map, List.getElem_range]
  by_cases e1 : 8 + k = j
  · subst e1
    rw [if_pos rfl, if_neg (by omega), if_pos (by omega)]
    congr 1; omega
  · rw [if_neg e1]
    by_cases e2 : k = j
    · subst e2; simp; omega
    · rw [if_neg e2]
      by_cases h8 : j < 8
      · rw [if_pos h8, if_pos h8]
        by_cases h9 : j < k
        · rw [if_pos h9, if_pos (by omega)]
        · rw [if_neg h9, if_neg (by omega)]
      · rw [if_neg h8, if_neg h8]
        by_cases h9 : j - 8 < k
        · rw [if_pos h9, if_pos (by omega)]
        · rw [if_neg h9, if_neg (by omega)]
def u8s (l : List Int) : Array Value := (l.map (fun x => Value.int .u8 x)).toArray
theorem u8s_get (l : List Int) (j : Nat) (h : j < l.length) : (u8s l)[j]? = some (.int .u8 l[j]) := by simp [u8s, h]
theorem u8s_set (l : List Int) (j : Nat) (x : Int) : (u8s l).setIfInBounds j (.int .u8 x) = u8s (l.set j x) := by simp [u8s]
theorem heap_set {W : World} {b j : Nat} {l : List Int} {T : TypeId} (h : W.heap[b]? = some (.cells (u8s l) T (0, 0))) (x : Int) : (W.setCell ⟨b, j, none⟩ (.int .u8 x)).heap[b]? = some (.cells (u8s (l.set j x)) T (0, 0)) := by
  rw [← u8s_set]
  obtain ⟨hlt, hk⟩ := Array.getElem?_eq_some_iff.1 h
  show (W.heap.modify b _)[b]? = _
  rw [Array.getElem?_eq_getElem (by rw [Array.size_modify]; exact hlt), Array.getElem_modify_self, hk]
  rfl
theorem slAt_u8s {W : World} {b : Nat} {l : List Int} {T : TypeId} {S : Nat → Prop} (h : W.heap[b]? = some (.cells (u8s l) T (0, 0))) (hS : S b) (hl : ∀ x ∈ l, 0 ≤ x ∧ x < 256) : SlAt encU8 W S (some ⟨b, 0, none⟩) l := fun _ => by
  refine ⟨b, 0, rfl, hS, fun i x hx => ⟨[.int .u8 x], ?_, rfl, hl x (List.mem_of_getElem? hx)⟩⟩
  intro j v hv
  obtain ⟨hi, rfl⟩ := List.getElem?_eq_some_iff.1 hx
  cases j with
  | zero =>
    simp at hv; subst hv
    have := cell_of_row W b i _ _ _ h
    rw [u8s_get _ _ hi] at this
    simpa [encU8] using this
  | succ j => simp at hv
set_option maxHeartbeats 4000000 in
theorem pair_any (y1 y2 : Int) (w : World) (ha : 0 ≤ y1 ∧ y1 < 18446744073709551616) (hb : 0 ≤ y2 ∧ y2 < 18446744073709551616) :
    Calls Try.prog 52 #[.int .u64 y1, .int .u64 y2] w fun e w' => e = .returned (.int .u64 (pairD y1 y2)) ∧ Below w.heap.size w w' := by
  obtain ⟨ha1, ha2⟩ := ha
  obtain ⟨hb1, hb2⟩ := hb
  have hrow0 : (w.alloc (.cells #[.int .u8 0, .int .u8 0, .int .u8 0, .int .u8 0, .int .u8 0, .int .u8 0, .int .u8 0, .int .u8 0, .int .u8 0, .int .u8 0, .int .u8 0, .int .u8 0, .int .u8 0, .int .u8 0, .int .u8 0, .int .u8 0] 109)).heap[w.heap.size]? = some (.cells (u8s (pairRow y1 y2 0)) 109 (0, 0)) := heap_alloc_new _ _
  have HR0 := Lib.hid hrow0; clear hrow0
  have HB0 : Hid (Below w.heap.size w (w.alloc (.cells #[.int .u8 0, .int .u8 0, .int .u8 0, .int .u8 0, .int .u8 0, .int .u8 0, .int .u8 0, .int .u8 0, .int .u8 0, .int .u8 0, .int .u8 0, .int .u8 0, .int .u8 0, .int .u8 0, .int .u8 0, .int .u8 0] 109))) := ext_alloc (Below.refl _ _)
  go_enter Try.func52, Try.ntmps52
  go_wp2
  go_loopw [7] (fun i wr => ∃ (k : Nat), k ≤ 8 ∧ i = .int .i64 k ∧ Hid (wr.heap[w.heap.size]? = some (.cells (u8s (pairRow y1 y2 k)) 109 (0, 0))) ∧ Hid (Below w.heap.size w wr)) (fun i _ => 8 - (intOf i).toNat)
  case atStart => exact ⟨0, by omega, rfl, HR0.out, HB0.out⟩
  case round =>
    obtain ⟨k, hk, rfl, hrow, hB⟩ := hrel
    by_cases hlt : k < 8
    · have hnn : (0 : Int) ≤ k := by omega
      have hki : (k : Int) < 8 := by omega
      have h16 := pairRow_len y1 y2 k
      have c1 := cell_of_row _ _ k _ _ _ hrow.out
      have c2 := cell_of_row _ _ (8 + k) _ _ _ hrow.out
      rw [u8s_get _ _ (by omega)] at c1 c2
      have hf1 : wr.frozen? ⟨w.heap.size, k, none⟩ = false := by simp [World.frozen?, hrow.out]
      have hf2 : wr.frozen? ⟨w.heap.size, 8 + k, none⟩ = false := by simp [World.frozen?, hrow.out]
      have e1 : ((8 : Int) + k).toNat = 8 + k := by omega
      have HSZ := Lib.hid hB.out.size
      have hsz : w.heap.size < wr.heap.size := (Array.getElem?_eq_some_iff.1 hrow.out).1
      go_upto_region 5 with (fail)
      go_region
      go_wp2
      go_roundw
      case rel =>
        have hs1 := heap_set hrow.out (j := k) (byteOf y1 k)
        have hs2 := heap_set hs1 (j := 8 + k) (byteOf y2 k)
        rw [pairRow_step y1 y2 k hlt] at hs2
        exact ⟨k + 1, hlt, by go_num, hs2, ext_drew ((hB.out.setCell (p := ⟨w.heap.size, k, none⟩) (Nat.le_refl w.heap.size) _).setCell (p := ⟨w.heap.size, 8 + k, none⟩) (Nat.le_refl w.heap.size) _)⟩
      case measure => simp [intOf]; omega
    · have hkk : k = 8 := by omega
      subst hkk
      have hki : ¬ (((8 : Nat) : Int) < 8) := by omega
      have hsz : w.heap.size < wr.heap.size := (Array.getElem?_eq_some_iff.1 hrow.out).1
      have hrow8 := hrow.out
      rw [pairRow_8] at hrow8
      have hl16 : (le8 y1 ++ le8 y2).length = 16 := by simp [le8]
      have HC := Lib.hid (digestBytes_any (some ⟨w.heap.size, 0, none⟩) 16 16 (le8 y1 ++ le8 y2) (pairD y1 y2) wr hl16 rfl (slAt_u8s hrow8 hsz (fun x hx => by
        rcases List.mem_append.1 hx with h | h
        · exact bytes_range y1 8 x h
        · exact bytes_range y2 8 x h)) (by decide))
      clear hrow8 hl16
      go_wp2_with fail
      refine HC.out.mono ?_
      rintro e w1 ⟨rfl, hb1⟩
      go_wp2
      go_ret
      exact ⟨rfl, hB.out.trans (hb1.mono hB.out.size)⟩
end Go.Proofs.Ythneomehfmjbkaa
