/-
  The walks of holds, Lookup (the reference).
  The walks of Add, List, Extents (the reference): marks of sectors, and their runs.
-/
import Derived.Test.YtnkmklnlaepdeaaGreatMap
import Derived.Test.YtnkmklnlaepdeaaGreatLaws
import Derived.Test.YtnkmklnlaepdeaaGreatPa
import Derived.Test.YtnkmklnlaepdeaaGreatBr
set_option linter.unusedVariables false
set_option linter.unusedSimpArgs false
set_option linter.unusedSectionVars false
set_option linter.unnecessarySimpa false
namespace Go.Proofs.YtnkmklnlaepdeaaGreat
open Go.RowKit

def HoldRet (x : Wr) (V S : Int) (w : World) (e : Ending) (w' : World) : Prop :=
  ∃ k q, e = .returned (.tuple #[.int .i64 k, .bool q]) ∧ ((q = true ∧ hits x V S ∧ k = S - x.2.1) ∨ (q = false ∧ ¬ hits x V S)) ∧ Below w.heap.size w w'
theorem HoldRet.yes {x : Wr} {V S k : Int} {w w' : World} (h : hits x V S) (hk : k = S - x.2.1) (hb : Below w.heap.size w w') : HoldRet x V S w (.returned (.tuple #[.int .i64 k, .bool true])) w' :=
  ⟨_, _, rfl, Or.inl ⟨rfl, h, hk⟩, hb⟩
theorem HoldRet.no {x : Wr} {V S k : Int} {w w' : World} (h : ¬ hits x V S) (hb : Below w.heap.size w w') : HoldRet x V S w (.returned (.tuple #[.int .i64 k, .bool false])) w' :=
  ⟨_, _, rfl, Or.inr ⟨rfl, h⟩, hb⟩

theorem holds_any (v s : Int) (D : Option Addr) (c : Nat) (data : List Sec) (w : World) (V S : Int) (hn : data.length ≤ 9223372036854775807) (h1 : I64 v) (h2 : I64 s) (h3 : I64 V) (h4 : I64 S) :
    Calls Tryz.prog 104 #[.agg #[.int .i64 v, .int .i64 s, .slice D data.length c], .int .i64 V, .int .i64 S] w (HoldRet (v, s, data) V S w) := by
  obtain ⟨h2a, h2b⟩ := h2
  obtain ⟨h4a, h4b⟩ := h4
  clear h1 h3
  have hb1 : Hid (∀ o, Below w.heap.size w (w.alloc o)) := fun o => (Below.refl _ _).alloc (Nat.le_refl _) o
  by_cases c1 : v = V
  · have c1' : (v != V) = false := by simp [c1]
    have C1 := Lib.hid c1; clear c1
    by_cases c2 : data.length = 0
    · have c2' : ((data.length : Int) == 0) = true := by simp [c2]
      have C2 := Lib.hid c2; clear c2
      go_enter Tryz.func104, Tryz.ntmps104
      go_wp2
      go_ret2
      exact HoldRet.no (fun h => by have := C2.out; have := h.2; simp only at this; omega) (hb1.out _)
    · have c2' : ((data.length : Int) == 0) = false := by rw [beq_eq_false_iff_ne]; omega
      by_cases c3 : S < s
      · go_enter Tryz.func104, Tryz.ntmps104
        go_wp2
        go_ret2
        exact HoldRet.no (fun h => by have := h.2; simp only at this; omega) (hb1.out _)
      · by_cases c4 : s < 0 ∧ 0 ≤ S
        · obtain ⟨c4, c5⟩ := c4
          by_cases c6 : s + data.length ≤ S
          · go_enter Tryz.func104, Tryz.ntmps104
            go_wp2
            go_ret2
            exact HoldRet.no (fun h => by have := h.2; simp only at this; omega) (hb1.out _)
          · go_enter Tryz.func104, Tryz.ntmps104
            go_wp2
            go_ret2
            exact HoldRet.yes ⟨C1.out, by simp only; omega⟩ rfl (hb1.out _)
        · by_cases c7 : S - s < data.length
          · have c7' : decide (S - s < (data.length : Int)) = true := by simpa using c7
            by_cases c8 : s < 0
            · have c9 : S < 0 := by omega
              clear c4
              go_enter Tryz.func104, Tryz.ntmps104
              go_wp2
              go_quiet (fail)
              go_wp2
              go_ret2
              exact HoldRet.yes ⟨C1.out, by simp only; omega⟩ rfl (bDrew (hb1.out _) _)
            · clear c4
              go_enter Tryz.func104, Tryz.ntmps104
              go_wp2
              go_quiet (fail)
              go_wp2
              go_ret2
              exact HoldRet.yes ⟨C1.out, by simp only; omega⟩ rfl (bDrew (hb1.out _) _)
          · have c7' : decide (S - s < (data.length : Int)) = false := by simpa using c7
            by_cases c8 : s < 0
            · have c9 : S < 0 := by omega
              clear c4
              go_enter Tryz.func104, Tryz.ntmps104
              go_wp2
              go_quiet (fail)
              go_wp2
              go_ret2
              exact HoldRet.no (fun h => by have := h.2; simp only at this; omega) (bDrew (hb1.out _) _)
            · clear c4
              go_enter Tryz.func104, Tryz.ntmps104
              go_wp2
              go_quiet (fail)
              go_wp2
              go_ret2
              exact HoldRet.no (fun h => by have := h.2; simp only at this; omega) (bDrew (hb1.out _) _)
  · have c1' : (v != V) = true := by simp [c1]
    have C1 := Lib.hid c1; clear c1
    go_enter Tryz.func104, Tryz.ntmps104
    go_wp2
    go_ret2
    exact HoldRet.no (fun h => C1.out h.1) (hb1.out _)

def LookRet (l : List Wr) (V S : Int) (w : World) (e : Ending) (w' : World) : Prop :=
  ∃ x0 x1 x2 x3 x4 x5 x6 x7 q, e = .returned (.tuple #[.agg #[.int .u8 x0, .int .u8 x1, .int .u8 x2, .int .u8 x3, .int .u8 x4, .int .u8 x5, .int .u8 x6, .int .u8 x7], .bool q]) ∧
    OkSec [x0, x1, x2, x3, x4, x5, x6, x7] ∧ q = (look l V S).isSome ∧ (look l V S).getD zsec = [x0, x1, x2, x3, x4, x5, x6, x7] ∧ Below w.heap.size w w'

/-- a whole sector stored -/
def set8 (w : World) (b : Nat) (x0 x1 x2 x3 x4 x5 x6 x7 : Value) : World :=
  ((((((((w.setCell ⟨b, 0, none⟩ x0).setCell ⟨b, 1, none⟩ x1).setCell ⟨b, 2, none⟩ x2).setCell ⟨b, 3, none⟩ x3).setCell ⟨b, 4, none⟩ x4).setCell ⟨b, 5, none⟩ x5).setCell ⟨b, 6, none⟩ x6).setCell ⟨b, 7, none⟩ x7)
theorem set8_row {w : World} {b : Nat} {T : TypeId} {c0 c1 c2 c3 c4 c5 c6 c7 : Value} (h : w.heap[b]? = some (.cells #[c0, c1, c2, c3, c4, c5, c6, c7] T (0, 0))) (x0 x1 x2 x3 x4 x5 x6 x7 : Value) :
    (set8 w b x0 x1 x2 x3 x4 x5 x6 x7).heap[b]? = some (.cells #[x0, x1, x2, x3, x4, x5, x6, x7] T (0, 0)) := by
  simp [set8, World.setCell, Array.getElem?_modify, h]
theorem set8_below {B b : Nat} {a w : World} (h : Below B a w) (hB : B ≤ b) (x0 x1 x2 x3 x4 x5 x6 x7 : Value) : Below B a (set8 w b x0 x1 x2 x3 x4 x5 x6 x7) :=
  (((((((h.setCell (p := ⟨b, 0, none⟩) hB _).setCell (p := ⟨b, 1, none⟩) hB _).setCell (p := ⟨b, 2, none⟩) hB _).setCell (p := ⟨b, 3, none⟩) hB _).setCell (p := ⟨b, 4, none⟩) hB _).setCell (p := ⟨b, 5, none⟩) hB _).setCell (p := ⟨b, 6, none⟩) hB _).setCell (p := ⟨b, 7, none⟩) hB _
def zrow : Array Value := #[.int .u8 0, .int .u8 0, .int .u8 0, .int .u8 0, .int .u8 0, .int .u8 0, .int .u8 0, .int .u8 0]
set_option maxHeartbeats 1000000 in
theorem refLookup_any (A : Option Addr) (c : Nat) (l : List Wr) (V S : Int) (w : World) (h1 : SlAt encWr w (Bl w.heap.size) A l) (hs : l.length ≤ 9223372036854775807) (h3 : I64 V) (h4 : I64 S) :
    Calls Tryz.prog 97 #[.slice A l.length c, .int .i64 V, .int .i64 S] w (LookRet l V S w) := by
  have h1 : Hid (∀ w', Below w.heap.size w w' → SlAt encWr w' (Bl w.heap.size) A l) := fun w' hb => h1.below hb
  have H3 := Lib.hid h3; clear h3
  have H4 := Lib.hid h4; clear h4
  go_enter Tryz.func97, Tryz.ntmps97
  go_wp2
  go_loopw [8, 9, 10] (fun i _ _ wr => ∃ k : Nat, k ≤ l.length ∧ i = .int .i64 ((k : Int) - 1) ∧ Below w.heap.size w wr ∧ Hid (wr.heap[w.heap.size]? = some (.cells zrow 54 (0, 0))) ∧ Hid (∀ j (hj : j < l.length), k ≤ j → ¬ hits l[j] V S)) (fun i _ _ _ => (intOf i + 1).toNat)
  case atStart => exact ⟨l.length, by omega, by simp, (Below.refl _ _).alloc (Nat.le_refl _) _, heap_alloc_new _ _, fun j hj h => by omega⟩
  case round =>
    obtain ⟨k, hk, rfl, hB, hrow, hno⟩ := hrel
    have hblt : w.heap.size < wr.heap.size := (Array.getElem?_eq_some_iff.1 hrow.out).1
    obtain ⟨r0, r1, r2, r3, r4, r5, r6, r7, rf⟩ := blk8 hrow.out
    cases k with
    | zero =>
      go_wp2
      have hrow2 := set8_row hrow.out (.int .u8 0) (.int .u8 0) (.int .u8 0) (.int .u8 0) (.int .u8 0) (.int .u8 0) (.int .u8 0) (.int .u8 0)
      obtain ⟨s0, s1, s2, s3, s4, s5, s6, s7, _⟩ := blk8 hrow2
      have hno' : look l V S = none := look_none l V S (fun x hx => by
        obtain ⟨j, hj, rfl⟩ := List.mem_iff_getElem.1 hx
        exact hno.out j hj (Nat.zero_le _))
      refine bodyPost_ret (v := .tuple #[.agg #[.int .u8 0, .int .u8 0, .int .u8 0, .int .u8 0, .int .u8 0, .int .u8 0, .int .u8 0, .int .u8 0], .bool false]) ?_ rfl ?_
      · simp only [set8] at s0 s1 s2 s3 s4 s5 s6 s7
        simp [results, Tryz.results97, go_sem, s0, s1, s2, s3, s4, s5, s6, s7]
      · exact ⟨0, 0, 0, 0, 0, 0, 0, 0, false, rfl, zsec_ok, by rw [hno']; rfl, by rw [hno']; rfl, set8_below hB (Nat.le_refl _) _ _ _ _ _ _ _ _⟩
    | succ k =>
      have hlt : k < l.length := by omega
      have ek : ((k + 1 : Nat) : Int) - 1 = (k : Int) := by omega
      rw [ek]
      have H1 := Lib.hid (h1.out wr hB)
      obtain ⟨b, off, D, dc, rfl, hb, g0, g1, g2, hD, hn1, hn2, hi1, hi2⟩ := H1.out.wr hlt
      have hnn : (0 : Int) ≤ k := by omega
      have hki : (k : Int) < l.length := by omega
      unfold maxLen at hn2
      have HN := Lib.hid hno.out; clear hno
      go_wp2_with fail
      refine (holds_any _ _ _ _ _ _ _ _ (by omega) hi1 hi2 H3.out H4.out).mono ?_
      rintro e w1 ⟨kk, q, rfl, hq | hq, hb1⟩
      · obtain ⟨rfl, hh, hkk⟩ := hq
        simp only at hkk
        have hh' := hh
        obtain ⟨_, hh2, hh3⟩ := hh
        simp only at hh2 hh3
        have hkk0 : 0 ≤ kk := by omega
        obtain ⟨kn, rfl⟩ := Int.eq_ofNat_of_zero_le hkk0
        have hkn : kn < l[k].2.2.length := by omega
        have hB1 : Below w.heap.size w w1 := hB.trans (hb1.mono hB.size)
        have hD1 := hD.below (hb1.mono hB.size)
        have hrow1 : w1.heap[w.heap.size]? = some (.cells zrow 54 (0, 0)) := (hb1.block _ hblt).trans hrow.out
        obtain ⟨b2, off2, x0, x1, x2, x3, x4, x5, x6, x7, rfl, hb2, hx, hok, d0, d1, d2, d3, d4, d5, d6, d7⟩ := hD1.sec hkn
        have hbl2 : b2 < w.heap.size := hb2
        have hbl : b < w.heap.size := hb
        have k2 := (hb1.cell (p := ⟨b, off + k * 3 + 2, none⟩) (by simp; omega)).trans g2
        obtain ⟨t0, t1, t2, t3, t4, t5, t6, t7, tf⟩ := blk8 hrow1
        have hknl : (kn : Int) < l[k].2.2.length := by omega
        have hkn0 : (0 : Int) ≤ kn := by omega
        have HX := Lib.hid hx; clear hx
        have HK := Lib.hid hkk; clear hkk
        have hrow2 := Lib.hid (set8_row hrow1 (.int .u8 x0) (.int .u8 x1) (.int .u8 x2) (.int .u8 x3) (.int .u8 x4) (.int .u8 x5) (.int .u8 x6) (.int .u8 x7))
        clear hrow1 r0 r1 r2 r3 r4 r5 r6 r7 rf
        go_wp2
        obtain ⟨s0, s1, s2, s3, s4, s5, s6, s7, _⟩ := blk8 hrow2.out
        refine bodyPost_ret (v := .tuple #[.agg #[.int .u8 x0, .int .u8 x1, .int .u8 x2, .int .u8 x3, .int .u8 x4, .int .u8 x5, .int .u8 x6, .int .u8 x7], .bool true]) ?_ rfl ?_
        · simp only [set8] at s0 s1 s2 s3 s4 s5 s6 s7
          simp [results, Tryz.results97, go_sem, s0, s1, s2, s3, s4, s5, s6, s7]
        · have hl := look_take l k hlt V S (fun j hj hjk => HN.out j hj hjk)
          rw [List.take_succ_eq_append_getElem hlt, look_snoc, if_pos hh'] at hl
          have hd : datum l[k] S = [x0, x1, x2, x3, x4, x5, x6, x7] := by
            rw [← HX.out]
            have e1 : (S - l[k].2.1).toNat = kn := by have := HK.out; omega
            simp [datum, e1, hkn]
          exact ⟨x0, x1, x2, x3, x4, x5, x6, x7, true, rfl, by rw [← HX.out]; exact hok, by rw [hl]; rfl, by rw [hl]; exact hd, set8_below hB1 (Nat.le_refl _) _ _ _ _ _ _ _ _⟩
      · obtain ⟨rfl, hh⟩ := hq
        have HH := Lib.hid hh; clear hh
        clear r0 r1 r2 r3 r4 r5 r6 r7 rf g0 g1 g2
        go_wp2
        go_roundw
        case rel =>
          refine ⟨k, by omega, by go_num, hB.trans (hb1.mono hB.size), (hb1.block _ hblt).trans hrow.out, fun j hj hjk => ?_⟩
          by_cases e : j = k
          · subst e; exact HH.out
          · exact HN.out j hj (by omega)
        case measure => simp [intOf]
end Go.Proofs.YtnkmklnlaepdeaaGreat

namespace Go.Proofs.YtnkmklnlaepdeaaGreat
open Go.RowKit

theorem tyExts : SliceTy Tryz.prog 134 144 2 16 := sliceTy_mk (z := .agg #[.int .i64 0, .int .i64 0]) Tryz.underlying134 (by kernel_rfl) rfl (by decide)
def AddRet (m' : List Bool) (b : Nat) (w : World) (e : Ending) (w' : World) : Prop := (∃ v, e = .returned v) ∧ BRow w' b m' ∧ w.grownBy w' (some b)

theorem grown_set {w wr : World} {b k : Nat} {u : Value} (h : w.grownBy wr (some b)) : w.grownBy (wr.setCell ⟨b, k, none⟩ u) (some b) :=
  ⟨h.os, h.tape, h.output, by simpa [World.setCell] using h.size, fun i hi hne => (Below.heap_setCell wr _ u i (fun e => hne (by rw [e]))).trans (h.block i hi hne)⟩
set_option maxHeartbeats 1000000 in
theorem add_any (b c : Nat) (m : List Bool) (s n : Int) (w : World) (h : BRow w b m) (hm : m.length ≤ 4096) (hs : I64 s) (hn : I64 n) :
    Calls Tryz.prog 98 #[.slice (some ⟨b, 0, none⟩) m.length c, .agg #[.int .i64 s, .int .i64 n]] w (AddRet (addM m (s, n)) b w) := by
  obtain ⟨hs1, hs2⟩ := hs
  obtain ⟨hn1, hn2⟩ := hn
  have hlt := h.lt
  have H := Lib.hid h; clear h
  have hend : Hid (∀ o, w.grownBy (w.alloc o) (some b)) := fun o => World.grownBy_alloc w o _
  have hrow0 : Hid (∀ o, BRow (w.alloc o) b m) := fun o => H.out.blk (Below.heap_alloc _ _ _ hlt)
  by_cases c1 : n ≤ 0
  · go_enter Tryz.func98, Tryz.ntmps98
    go_wp2
    refine bodyPost_ret (results_none rfl _ _ _) rfl ?_
    refine ⟨⟨_, rfl⟩, ?_, hend.out _⟩
    rw [addM_none m (s, n) (fun i _ => by simp only; omega)]
    exact hrow0.out _
  · by_cases c2 : (m.length : Int) ≤ s
    · go_enter Tryz.func98, Tryz.ntmps98
      go_wp2
      refine bodyPost_ret (results_none rfl _ _ _) rfl ?_
      refine ⟨⟨_, rfl⟩, ?_, hend.out _⟩
      rw [addM_none m (s, n) (fun i _ => by simp only; omega)]
      exact hrow0.out _
    · have hbne : b ≠ w.heap.size := by omega
      by_cases c3 : s < 0
      · by_cases c4 : (m.length : Int) ≤ s + n
        · go_enter Tryz.func98, Tryz.ntmps98
          go_wp2
          all_goals
            go_loopw [6] (fun i wr => ∃ k : Nat, 0 ≤ k ∧ ((k : Int) ≤ 0 ∨ (k : Int) ≤ (m.length : Int)) ∧ i = .int .i64 k ∧ Hid (BRow wr b (addTo m 0 k)) ∧ Hid (w.grownBy wr (some b))) (fun i _ => ((m.length : Int) - intOf i).toNat)
            case atStart => exact ⟨0, Nat.le_refl _, Or.inl (by omega), rfl, by rw [addTo_lo]; exact hrow0.out _, hend.out _⟩
            case round =>
              obtain ⟨k, hk0, hk1, rfl, hr, hg⟩ := hrel
              by_cases hlt2 : (k : Int) < (m.length : Int)
              · have hkl : k < m.length := by omega
                have hc := hr.out.cell (k := k) (by rw [addTo_len]; exact hkl)
                have hf := hr.out.frozen k
                have hki : (k : Int) < m.length := by omega
                have hnn : (0 : Int) ≤ k := by omega
                go_wp2
                go_roundw
                case rel => exact ⟨k + 1, by omega, Or.inr (by omega), by go_num, by rw [← addTo_succ m _ k hk0]; exact hr.out.set k true, grown_set hg.out⟩
                case measure => simp [intOf]; omega
              · go_wp2
                go_end0
                refine ⟨⟨_, rfl⟩, ?_, hg.out⟩
                rw [← addTo_hi m _ 0 k (fun i hi => by simp only; omega)]
                exact hr.out
        · go_enter Tryz.func98, Tryz.ntmps98
          go_wp2
          all_goals
            go_loopw [6] (fun i wr => ∃ k : Nat, 0 ≤ k ∧ ((k : Int) ≤ 0 ∨ (k : Int) ≤ (s + n)) ∧ i = .int .i64 k ∧ Hid (BRow wr b (addTo m 0 k)) ∧ Hid (w.grownBy wr (some b))) (fun i _ => ((s + n) - intOf i).toNat)
            case atStart => exact ⟨0, Nat.le_refl _, Or.inl (by omega), rfl, by rw [addTo_lo]; exact hrow0.out _, hend.out _⟩
            case round =>
              obtain ⟨k, hk0, hk1, rfl, hr, hg⟩ := hrel
              by_cases hlt2 : (k : Int) < (s + n)
              · have hkl : k < m.length := by omega
                have hc := hr.out.cell (k := k) (by rw [addTo_len]; exact hkl)
                have hf := hr.out.frozen k
                have hki : (k : Int) < m.length := by omega
                have hnn : (0 : Int) ≤ k := by omega
                go_wp2
                go_roundw
                case rel => exact ⟨k + 1, by omega, Or.inr (by omega), by go_num, by rw [← addTo_succ m _ k hk0]; exact hr.out.set k true, grown_set hg.out⟩
                case measure => simp [intOf]; omega
              · go_wp2
                go_end0
                refine ⟨⟨_, rfl⟩, ?_, hg.out⟩
                rw [← addTo_hi m _ 0 k (fun i hi => by simp only; omega)]
                exact hr.out
      · obtain ⟨sn, rfl⟩ := Int.eq_ofNat_of_zero_le (show 0 ≤ s by omega)
        by_cases c4 : (m.length : Int) ≤ sn + n
        · by_cases c5 : n ≤ 4096
          · go_enter Tryz.func98, Tryz.ntmps98
            go_wp2
            all_goals
              go_loopw [6] (fun i wr => ∃ k : Nat, sn ≤ k ∧ ((k : Int) ≤ sn ∨ (k : Int) ≤ (m.length : Int)) ∧ i = .int .i64 k ∧ Hid (BRow wr b (addTo m sn k)) ∧ Hid (w.grownBy wr (some b))) (fun i _ => ((m.length : Int) - intOf i).toNat)
              case atStart => exact ⟨sn, Nat.le_refl _, Or.inl (by omega), rfl, by rw [addTo_lo]; exact hrow0.out _, hend.out _⟩
              case round =>
                obtain ⟨k, hk0, hk1, rfl, hr, hg⟩ := hrel
                by_cases hlt2 : (k : Int) < (m.length : Int)
                · have hkl : k < m.length := by omega
                  have hc := hr.out.cell (k := k) (by rw [addTo_len]; exact hkl)
                  have hf := hr.out.frozen k
                  have hki : (k : Int) < m.length := by omega
                  have hnn : (0 : Int) ≤ k := by omega
                  go_wp2
                  go_roundw
                  case rel => exact ⟨k + 1, by omega, Or.inr (by omega), by go_num, by rw [← addTo_succ m _ k hk0]; exact hr.out.set k true, grown_set hg.out⟩
                  case measure => simp [intOf]; omega
                · go_wp2
                  go_end0
                  refine ⟨⟨_, rfl⟩, ?_, hg.out⟩
                  rw [← addTo_hi m _ sn k (fun i hi => by simp only; omega)]
                  exact hr.out
          · have c6 : (m.length : Int) ≤ sn + 4096 := by omega
            go_enter Tryz.func98, Tryz.ntmps98
            go_wp2
            all_goals
              go_loopw [6] (fun i wr => ∃ k : Nat, sn ≤ k ∧ ((k : Int) ≤ sn ∨ (k : Int) ≤ (m.length : Int)) ∧ i = .int .i64 k ∧ Hid (BRow wr b (addTo m sn k)) ∧ Hid (w.grownBy wr (some b))) (fun i _ => ((m.length : Int) - intOf i).toNat)
              case atStart => exact ⟨sn, Nat.le_refl _, Or.inl (by omega), rfl, by rw [addTo_lo]; exact hrow0.out _, hend.out _⟩
              case round =>
                obtain ⟨k, hk0, hk1, rfl, hr, hg⟩ := hrel
                by_cases hlt2 : (k : Int) < (m.length : Int)
                · have hkl : k < m.length := by omega
                  have hc := hr.out.cell (k := k) (by rw [addTo_len]; exact hkl)
                  have hf := hr.out.frozen k
                  have hki : (k : Int) < m.length := by omega
                  have hnn : (0 : Int) ≤ k := by omega
                  go_wp2
                  go_roundw
                  case rel => exact ⟨k + 1, by omega, Or.inr (by omega), by go_num, by rw [← addTo_succ m _ k hk0]; exact hr.out.set k true, grown_set hg.out⟩
                  case measure => simp [intOf]; omega
                · go_wp2
                  go_end0
                  refine ⟨⟨_, rfl⟩, ?_, hg.out⟩
                  rw [← addTo_hi m _ sn k (fun i hi => by simp only; omega)]
                  exact hr.out
        · go_enter Tryz.func98, Tryz.ntmps98
          go_wp2
          all_goals
            go_loopw [6] (fun i wr => ∃ k : Nat, sn ≤ k ∧ ((k : Int) ≤ sn ∨ (k : Int) ≤ (sn + n)) ∧ i = .int .i64 k ∧ Hid (BRow wr b (addTo m sn k)) ∧ Hid (w.grownBy wr (some b))) (fun i _ => ((sn + n) - intOf i).toNat)
            case atStart => exact ⟨sn, Nat.le_refl _, Or.inl (by omega), rfl, by rw [addTo_lo]; exact hrow0.out _, hend.out _⟩
            case round =>
              obtain ⟨k, hk0, hk1, rfl, hr, hg⟩ := hrel
              by_cases hlt2 : (k : Int) < (sn + n)
              · have hkl : k < m.length := by omega
                have hc := hr.out.cell (k := k) (by rw [addTo_len]; exact hkl)
                have hf := hr.out.frozen k
                have hki : (k : Int) < m.length := by omega
                have hnn : (0 : Int) ≤ k := by omega
                go_wp2
                go_roundw
                case rel => exact ⟨k + 1, by omega, Or.inr (by omega), by go_num, by rw [← addTo_succ m _ k hk0]; exact hr.out.set k true, grown_set hg.out⟩
                case measure => simp [intOf]; omega
              · go_wp2
                go_end0
                refine ⟨⟨_, rfl⟩, ?_, hg.out⟩
                rw [← addTo_hi m _ sn k (fun i hi => by simp only; omega)]
                exact hr.out

theorem list_skip (m : List Bool) (k : Nat) (hk : k < m.length) (h : m[k] = false) : runsL (idxs (m.take (k + 1))) = runsL (idxs (m.take k)) := by
  rw [List.take_succ_eq_append_getElem hk, idxs_snoc, h]; simp
theorem list_step (m : List Bool) (k : Nat) (hk : k < m.length) (h : m[k] = true) : runsL (idxs (m.take (k + 1))) = runStep (runsL (idxs (m.take k))) k := by
  rw [List.take_succ_eq_append_getElem hk, idxs_snoc, h]
  simp only [if_true]
  rw [runsL_snoc, List.length_take, Nat.min_eq_left (by omega)]
theorem list_end (m : List Bool) (k : Nat) (hk : k < m.length) : (∃ s c, (runsL (idxs (m.take (k + 1)))).getLast? = some (s, c) ∧ s + c = ((k + 1 : Nat) : Int)) ↔ m[k] = true := by
  have := run_end (m.take (k + 1))
  rw [List.length_take, Nat.min_eq_left (by omega)] at this
  rw [this, List.take_succ_eq_append_getElem hk, List.getLast?_concat]
  simp
theorem list_bound (m : List Bool) (k : Nat) (hk : k ≤ m.length) : (∀ e ∈ runsL (idxs (m.take k)), 0 ≤ e.1 ∧ 0 < e.2 ∧ e.1 + e.2 ≤ k) ∧ (runsL (idxs (m.take k))).length ≤ k := by
  have h := runsL_bound k (idxs (m.take k)) (fun x hx => by
    have := idxs_mem _ x hx
    rw [List.length_take, Nat.min_eq_left hk] at this
    exact this)
  refine ⟨h.1, Nat.le_trans h.2 ?_⟩
  have := idxs_len (m.take k)
  rw [List.length_take, Nat.min_eq_left hk] at this
  exact this

set_option maxHeartbeats 1000000 in
theorem list_any (b c : Nat) (m : List Bool) (w : World) (h : BRow w b m) (hm : m.length ≤ 4096) :
    Calls Tryz.prog 99 #[.slice (some ⟨b, 0, none⟩) m.length c] w (Ret (encSl encExt) (runsL (idxs m)) w) := by
  have hlt := h.lt
  have H : Hid (∀ w', Below w.heap.size w w' → BRow w' b m) := fun w' hb => h.blk (hb.block b hlt)
  clear h
  go_enter Tryz.func99, Tryz.ntmps99
  go_wp2
  go_loopw [3, 4] (fun v i wr => ∃ (k : Nat) (A : Option Addr) (vc : Nat) (out : List Ext), k ≤ m.length ∧ i = .int .i64 k ∧ v = .slice A out.length vc ∧ Below w.heap.size w wr ∧ Hid (out = runsL (idxs (m.take k))) ∧ Own encExt wr w.heap.size 144 (fun _ => False) (.slice A out.length vc) out) (fun _ i _ => m.length - (intOf i).toNat)
  case atStart => exact ⟨0, none, 0, [], by omega, rfl, rfl, Below.refl _ _, rfl, Own.nil_⟩
  case round =>
    obtain ⟨k, A, vc, out, hk, rfl, rfl, hB, hout, hown⟩ := hrel
    by_cases hlt2 : k < m.length
    · have hc := (H.out wr hB).cell hlt2
      have hki : (k : Int) < m.length := by omega
      have hnn : (0 : Int) ≤ k := by omega
      have hbd := list_bound m k hk
      rw [← hout.out] at hbd
      obtain ⟨hbd1, hbd2⟩ := hbd
      have HBD := Lib.hid hbd1; clear hbd1
      cases hq : m[k] with
      | false =>
        rw [hq] at hc
        have HQ := Lib.hid hq; clear hq
        go_wp2
        go_roundw
        case rel => exact ⟨k + 1, A, vc, out, hlt2, by go_num, rfl, hB, by rw [list_skip m k hlt2 HQ.out]; exact hout.out, hown⟩
        case measure => simp [intOf]; omega
      | true =>
        rw [hq] at hc
        have hst := list_step m k hlt2 hq
        rw [← hout.out] at hst
        have HST := Lib.hid hst; clear hst hq
        have hsz := hB.size
        have hown1 := hown.alloc (fun _ h => h.elim) (.cells #[.int .i64 k, .int .i64 1] 144)
        have HO := Lib.hid hown1; clear hown1
        have s1 : w.heap.size ≤ (wr.alloc (.cells #[.int .i64 k, .int .i64 1] 144)).heap.size := by simp; omega
        have s2 : out.length + 1 ≤ maxLen := by simp [maxLen]; omega
        have s3 : (out.length + 1) * 16 ≤ 140737488355328 := by omega
        have i1 : I64 (k : Int) := by unfold I64; omega
        have i2 : I64 1 := by unfold I64; omega
        by_cases hk0 : k = 0
        · have hk0' : ¬ (0 : Int) < k := by omega
          have hnw : Hid (runStep out k = out ++ [((k : Int), 1)]) := runStep_new (fun s c hg => by
            have := HBD.out (s, c) (List.mem_of_getLast? hg)
            simp only at this
            omega)
          clear hk0
          go_wp2_with (at_builtin; refine wpList_app1 (E := encExt) tyExts rfl _ _ rfl rfl HO.out ((k : Int), 1) [.int .i64 k, .int .i64 1] rfl (ext_mk (x := ((k : Int), 1)) i1 i2) (heap_alloc_new _ _) (fun _ h => h.elim) s1 s2 s3 ?_; intro A' c' w1 hown2 hg hat)
          go_roundw
          case rel =>
            refine ⟨k + 1, A', c', out ++ [((k : Int), 1)], hlt2, by go_num, by simp, ?_, ?_, ?_⟩
            · exact (hB.alloc hB.size _).grown hg s1 (fun g h => (hown.lt g h).1)
            · rw [HST.out, hnw.out]; exact rfl
            · simpa using hown2
          case measure => simp [intOf]; omega
        · have hk0' : (0 : Int) < k := by omega
          have hk1 : k - 1 < m.length := by omega
          have hc2 := (H.out wr hB).cell hk1
          have e2 : (1 : Int) ≤ k := by omega
          have e3 : (k : Int) - 1 < m.length := by omega
          have e0 : k - 1 + 1 = k := by omega
          have E0 := Lib.hid e0; clear e0
          have e1 : ((k : Int) - 1).toNat = k - 1 := by omega
          have hle := list_end m (k - 1) hk1
          rw [E0.out, ← hout.out] at hle
          cases hq2 : m[k - 1] with
          | false =>
            rw [hq2] at hc2
            have hnw : Hid (runStep out k = out ++ [((k : Int), 1)]) := runStep_new (fun s c hg e => by
              have := hle.1 ⟨s, c, hg, e⟩
              rw [hq2] at this
              cases this)
            clear hle hq2 hk0
            go_wp2_with (at_builtin; refine wpList_app1 (E := encExt) tyExts rfl _ _ rfl rfl HO.out ((k : Int), 1) [.int .i64 k, .int .i64 1] rfl (ext_mk (x := ((k : Int), 1)) i1 i2) (heap_alloc_new _ _) (fun _ h => h.elim) s1 s2 s3 ?_; intro A' c' w1 hown2 hg hat)
            go_roundw
            case rel =>
              refine ⟨k + 1, A', c', out ++ [((k : Int), 1)], hlt2, by go_num, by simp, ?_, ?_, ?_⟩
              · exact (hB.alloc hB.size _).grown hg s1 (fun g h => (hown.lt g h).1)
              · rw [HST.out, hnw.out]; exact rfl
              · simpa using hown2
            case measure => simp [intOf]; omega
          | true =>
            rw [hq2] at hc2
            obtain ⟨s, n, hg, he⟩ := hle.2 hq2
            have hpos : 0 < out.length := by
              cases out with
              | nil => simp at hg
              | cons a l => simp
            have hlast : out[out.length - 1]'(by omega) = (s, n) := by
              rw [List.getLast?_eq_getElem?, List.getElem?_eq_getElem (by omega)] at hg
              injection hg
            have hmore : Hid (runStep out k = out.set (out.length - 1) (s, n + 1)) := runStep_more hg he
            have hsn := HBD.out (s, n) (List.mem_of_getLast? hg)
            simp only at hsn
            obtain ⟨hs0, hn0, hsn⟩ := hsn
            obtain ⟨g, cs, rfl, hg1, hg2, _, hcell, hfz, hrd⟩ := hown.elem (i := out.length - 1) (by omega)
            obtain ⟨rfl, _, _⟩ := ext_cs hrd
            rw [hlast] at hcell
            have d0 := hcell 0 _ rfl
            have d1 := hcell 1 _ rfl
            have e4 : ((out.length : Int) - 1).toNat = out.length - 1 := by omega
            have e5 : (1 : Int) ≤ out.length := by omega
            have hst := Lib.hid (hown.stored (i := out.length - 1) (j := 1) (by omega) (by decide) (.int .i64 (n + 1)) (s, n + 1) (fun cs hr => by
              obtain ⟨rfl, _, _⟩ := ext_cs hr
              rw [hlast]
              exact ext_mk (x := (s, n + 1)) (by unfold I64; simp only; omega) (by unfold I64; simp only; omega)))
            have HL := Lib.hid hlast
            clear hle hq2 hk0 hcell hrd hlast hg he HO
            simp only [show encExt.size = 2 from rfl, Nat.add_zero] at d0 d1 hst
            go_wp2
            go_roundw
            case rel =>
              refine ⟨k + 1, some ⟨g, 0, none⟩, vc, out.set (out.length - 1) (s, n + 1), hlt2, by go_num, by simp, hB.setCell (by simpa using hg1) _, ?_, ?_⟩
              · rw [HST.out, hmore.out]; exact rfl
              · simpa using hst.out
            case measure => simp [intOf]; omega
    · have hkk : k = m.length := by omega
      subst hkk
      go_wp2
      go_ret
      refine ⟨_, rfl, ?_, hB⟩
      have e := hout.out
      rw [List.take_length] at e
      rw [← e]
      exact hown.rd (fun _ h => h.elim)
end Go.Proofs.YtnkmklnlaepdeaaGreat
