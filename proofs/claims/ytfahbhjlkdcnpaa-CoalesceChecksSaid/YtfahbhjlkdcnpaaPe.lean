/-
  The walks of holds, Lookup (the reference).
-/
import Derived.Test.YtfahbhjlkdcnpaaMap
import Derived.Test.YtfahbhjlkdcnpaaLaws
import Derived.Test.YtfahbhjlkdcnpaaPd
set_option linter.unusedVariables false
set_option linter.unusedSimpArgs false
set_option linter.unusedSectionVars false
set_option linter.unnecessarySimpa false
namespace Go.Proofs.Ytfahbhjlkdcnpaa
open Go.RowKit

def HoldRet (x : Wr) (V S : Int) (w : World) (e : Ending) (w' : World) : Prop :=
  ∃ k q, e = .returned (.tuple #[.int .i64 k, .bool q]) ∧ ((q = true ∧ hits x V S ∧ k = S - x.2.1) ∨ (q = false ∧ ¬ hits x V S)) ∧ Below w.heap.size w w'
theorem HoldRet.yes {x : Wr} {V S k : Int} {w w' : World} (h : hits x V S) (hk : k = S - x.2.1) (hb : Below w.heap.size w w') : HoldRet x V S w (.returned (.tuple #[.int .i64 k, .bool true])) w' :=
  ⟨_, _, rfl, Or.inl ⟨rfl, h, hk⟩, hb⟩
theorem HoldRet.no {x : Wr} {V S k : Int} {w w' : World} (h : ¬ hits x V S) (hb : Below w.heap.size w w') : HoldRet x V S w (.returned (.tuple #[.int .i64 k, .bool false])) w' :=
  ⟨_, _, rfl, Or.inr ⟨rfl, h⟩, hb⟩

theorem holds_any (v s : Int) (D : Option Addr) (c : Nat) (data : List Sec) (w : World) (V S : Int) (hn : data.length ≤ 9223372036854775807) (h1 : I64 v) (h2 : I64 s) (h3 : I64 V) (h4 : I64 S) :
    Calls Try.prog 57 #[.agg #[.int .i64 v, .int .i64 s, .slice D data.length c], .int .i64 V, .int .i64 S] w (HoldRet (v, s, data) V S w) := by
  obtain ⟨h2a, h2b⟩ := h2
  obtain ⟨h4a, h4b⟩ := h4
  clear h1 h3
  have hb1 : Hid (∀ o, Below w.heap.size w (w.alloc o)) := fun o => (Below.refl _ _).alloc (Nat.le_refl _) o
  by_cases c1 : v = V
  · have c1' : (v != V) = false := by simp [c1]
    have C1 := Lib.hid c1; clear c1
    by_cases c2 : data.length = 0
    · have c2' : ((data.length : Int) == 0) = true := by simp [c2]
      have C2 := Lib.hid c2; clear c2
      go_enter Try.func57, Try.ntmps57
      go_wp2
      go_ret2
      exact HoldRet.no (fun h => by have := C2.out; have := h.2; simp only at this; omega) (hb1.out _)
    · have c2' : ((data.length : Int) == 0) = false := by rw [beq_eq_false_iff_ne]; omega
      by_cases c3 : S < s
      · go_enter Try.func57, Try.ntmps57
        go_wp2
        go_ret2
        exact HoldRet.no (fun h => by have := h.2; simp only at this; omega) (hb1.out _)
      · by_cases c4 : s < 0 ∧ 0 ≤ S
        · obtain ⟨c4, c5⟩ := c4
          by_cases c6 : s + data.length ≤ S
          · go_enter Try.func57, Try.ntmps57
            go_wp2
            go_ret2
            exact HoldRet.no (fun h => by have := h.2; simp only at this; omega) (hb1.out _)
          · go_enter Try.func57, Try.ntmps57
            go_wp2
            go_ret2
            exact HoldRet.yes ⟨C1.out, by simp only; omega⟩ rfl (hb1.out _)
        · by_cases c7 : S - s < data.length
          · have c7' : decide (S - s < (data.length : Int)) = true := by simpa using c7
            by_cases c8 : s < 0
            · have c9 : S < 0 := by omega
              clear c4
              go_enter Try.func57, Try.ntmps57
              go_wp2
              go_quiet (fail)
              go_wp2
              go_ret2
              exact HoldRet.yes ⟨C1.out, by simp only; omega⟩ rfl (bDrew (hb1.out _) _)
            · clear c4
              go_enter Try.func57, Try.ntmps57
              go_wp2
              go_quiet (fail)
              go_wp2
              go_ret2
              exact HoldRet.yes ⟨C1.out, by simp only; omega⟩ rfl (bDrew (hb1.out _) _)
          · have c7' : decide (S - s < (data.length : Int)) = false := by simpa using c7
            by_cases c8 : s < 0
            · have c9 : S < 0 := by omega
              clear c4
              go_enter Try.func57, Try.ntmps57
              go_wp2
              go_quiet (fail)
              go_wp2
              go_ret2
              exact HoldRet.no (fun h => by have := h.2; simp only at this; omega) (bDrew (hb1.out _) _)
            · clear c4
              go_enter Try.func57, Try.ntmps57
              go_wp2
              go_quiet (fail)
              go_wp2
              go_ret2
              exact HoldRet.no (fun h => by have := h.2; simp only at this; omega) (bDrew (hb1.out _) _)
  · have c1' : (v != V) = true := by simp [c1]
    have C1 := Lib.hid c1; clear c1
    go_enter Try.func57, Try.ntmps57
    go_wp2
    go_ret2
    exact HoldRet.no (fun h => C1.out h.1) (hb1.out _)

def LookRet (l : List Wr) (V S : Int) (w : World) (e : Ending) (w' : World) : Prop :=
  ∃ x0 x1 x2 x3 x4 x5 x6 x7 q, e = .returned (.tuple #[.agg #[.int .u8 x0, .int .u8 x1, .int .u8 x2, .int .u8 x3, .int .u8 x4, .int .u8 x5, .int .u8 x6, .int .u8 x7], .bool q]) ∧
    OkSec [x0, x1, x2, x3, x4, x5, x6, x7] ∧ q = (look l V S).isSome ∧ (look l V S).getD zsec = [x0, x1, x2, x3, x4, x5, x6, x7] ∧ Below w.heap.size w w'
theorem zsec_ok : OkSec zsec := ⟨rfl, by simp [zsec]⟩

theorem blk8 {w : World} {b : Nat} {T : TypeId} {c0 c1 c2 c3 c4 c5 c6 c7 : Value} (h : w.heap[b]? = some (.cells #[c0, c1, c2, c3, c4, c5, c6, c7] T (0, 0))) :
    w.cell? ⟨b, 0, none⟩ = some c0 ∧ w.cell? ⟨b, 1, none⟩ = some c1 ∧ w.cell? ⟨b, 2, none⟩ = some c2 ∧ w.cell? ⟨b, 3, none⟩ = some c3 ∧ w.cell? ⟨b, 4, none⟩ = some c4 ∧ w.cell? ⟨b, 5, none⟩ = some c5 ∧ w.cell? ⟨b, 6, none⟩ = some c6 ∧ w.cell? ⟨b, 7, none⟩ = some c7 ∧ ∀ j, w.frozen? ⟨b, j, none⟩ = false :=
  ⟨cell_of_row w b 0 _ T _ h, cell_of_row w b 1 _ T _ h, cell_of_row w b 2 _ T _ h, cell_of_row w b 3 _ T _ h, cell_of_row w b 4 _ T _ h, cell_of_row w b 5 _ T _ h, cell_of_row w b 6 _ T _ h, cell_of_row w b 7 _ T _ h, fun j => by simp [World.frozen?, h]⟩
/-- a whole sector stored -/
def set8 (w : World) (b : Nat) (x0 x1 x2 x3 x4 x5 x6 x7 : Value) : World :=
  ((((((((w.setCell ⟨b, 0, none⟩ x0).setCell ⟨b, 1, none⟩ x1).setCell ⟨b, 2, none⟩ x2).setCell ⟨b, 3, none⟩ x3).setCell ⟨b, 4, none⟩ x4).setCell ⟨b, 5, none⟩ x5).setCell ⟨b, 6, none⟩ x6).setCell ⟨b, 7, none⟩ x7)
theorem set8_row {w : World} {b : Nat} {T : TypeId} {c0 c1 c2 c3 c4 c5 c6 c7 : Value} (h : w.heap[b]? = some (.cells #[c0, c1, c2, c3, c4, c5, c6, c7] T (0, 0))) (x0 x1 x2 x3 x4 x5 x6 x7 : Value) :
    (set8 w b x0 x1 x2 x3 x4 x5 x6 x7).heap[b]? = some (.cells #[x0, x1, x2, x3, x4, x5, x6, x7] T (0, 0)) := by
  simp [set8, World.setCell, Array.getElem?_modify, h]
theorem set8_below {B b : Nat} {a w : World} (h : Below B a w) (hB : B ≤ b) (x0 x1 x2 x3 x4 x5 x6 x7 : Value) : Below B a (set8 w b x0 x1 x2 x3 x4 x5 x6 x7) :=
  (((((((h.setCell (p := ⟨b, 0, none⟩) hB _).setCell (p := ⟨b, 1, none⟩) hB _).setCell (p := ⟨b, 2, none⟩) hB _).setCell (p := ⟨b, 3, none⟩) hB _).setCell (p := ⟨b, 4, none⟩) hB _).setCell (p := ⟨b, 5, none⟩) hB _).setCell (p := ⟨b, 6, none⟩) hB _).setCell (p := ⟨b, 7, none⟩) hB _
def zrow : Array Value := #[.int .u8 0, .int .u8 0, .int .u8 0, .int .u8 0, .int .u8 0, .int .u8 0, .int .u8 0, .int .u8 0]
set_option maxHeartbeats 1000000 in
theorem refLookup_any (A : Option Addr) (c : Nat) (l : List Wr) (V S : Int) (w : World) (h1 : SlAt encWr w (Bl w.heap.size) A l) (hs : l.length ≤ 9223372036854775807) (h3 : I64 V) (h4 : I64 S) :
    Calls Try.prog 28 #[.slice A l.length c, .int .i64 V, .int .i64 S] w (LookRet l V S w) := by
  have h1 : Hid (∀ w', Below w.heap.size w w' → SlAt encWr w' (Bl w.heap.size) A l) := fun w' hb => h1.below hb
  have H3 := Lib.hid h3; clear h3
  have H4 := Lib.hid h4; clear h4
  go_enter Try.func28, Try.ntmps28
  go_wp2
  go_loopw [8, 9, 10] (fun i _ _ wr => ∃ k : Nat, k ≤ l.length ∧ i = .int .i64 ((k : Int) - 1) ∧ Below w.heap.size w wr ∧ Hid (wr.heap[w.heap.size]? = some (.cells zrow 53 (0, 0))) ∧ Hid (∀ j (hj : j < l.length), k ≤ j → ¬ hits l[j] V S)) (fun i _ _ _ => (intOf i + 1).toNat)
  case atStart => exact ⟨l.length, by omega, by simp, (Below.refl _ _).alloc (Nat.le_refl _) _, heap_alloc_new _ _, fun j hj h => by omega⟩
  case round =>
    obtain ⟨k, hk, rfl, hB, hrow, hno⟩ := hrel
    have hblt : w.heap.size < wr.heap.size := (Array.getElem?_eq_some_iff.1 hrow.out).1
    obtain ⟨r0, r1, r2, r3, r4, r5, r6, r7, rf⟩ := blk8 hrow.out
    cases k with
    | zero =>
      go_wp2
      have hrow2 := set8_row hrow.out (.int .u8 0) (.int .u8 0) (.int .u8 0) (.int .u8 0) (.int .u8 0) (.int .u8 0) (.int .u8 0) (.int .u8 0)
      obtain ⟨s0, s1, s2, s3, s4, s5, s6, s7, _⟩ := blk8 hrow2
      have hno' : look l V S = none := look_none l V S (fun x hx => by
        obtain ⟨j, hj, rfl⟩ := List.mem_iff_getElem.1 hx
        exact hno.out j hj (Nat.zero_le _))
      refine bodyPost_ret (v := .tuple #[.agg #[.int .u8 0, .int .u8 0, .int .u8 0, .int .u8 0, .int .u8 0, .int .u8 0, .int .u8 0, .int .u8 0], .bool false]) ?_ rfl ?_
      · simp only [set8] at s0 s1 s2 s3 s4 s5 s6 s7
        simp [results, Try.results28, go_sem, s0, s1, s2, s3, s4, s5, s6, s7]
      · exact ⟨0, 0, 0, 0, 0, 0, 0, 0, false, rfl, zsec_ok, by rw [hno']; rfl, by rw [hno']; rfl, set8_below hB (Nat.le_refl _) _ _ _ _ _ _ _ _⟩
    | succ k =>
      have hlt : k < l.length := by omega
      have ek : ((k + 1 : Nat) : Int) - 1 = (k : Int) := by omega
      rw [ek]
      have H1 := Lib.hid (h1.out wr hB)
      obtain ⟨b, off, D, dc, rfl, hb, g0, g1, g2, hD, hn1, hn2, hi1, hi2⟩ := H1.out.wr hlt
      have hnn : (0 : Int) ≤ k := by omega
      have hki : (k : Int) < l.length := by omega
      unfold maxLen at hn2
      have HN := Lib.hid hno.out; clear hno
      go_wp2_with fail
      refine (holds_any _ _ _ _ _ _ _ _ (by omega) hi1 hi2 H3.out H4.out).mono ?_
      rintro e w1 ⟨kk, q, rfl, hq | hq, hb1⟩
      · obtain ⟨rfl, hh, hkk⟩ := hq
        simp only at hkk
        have hh' := hh
        obtain ⟨_, hh2, hh3⟩ := hh
        simp only at hh2 hh3
        have hkk0 : 0 ≤ kk := by omega
        obtain ⟨kn, rfl⟩ := Int.eq_ofNat_of_zero_le hkk0
        have hkn : kn < l[k].2.2.length := by omega
        have hB1 : Below w.heap.size w w1 := hB.trans (hb1.mono hB.size)
        have hD1 := hD.below (hb1.mono hB.size)
        have hrow1 : w1.heap[w.heap.size]? = some (.cells zrow 53 (0, 0)) := (hb1.block _ hblt).trans hrow.out
        obtain ⟨b2, off2, x0, x1, x2, x3, x4, x5, x6, x7, rfl, hb2, hx, hok, d0, d1, d2, d3, d4, d5, d6, d7⟩ := hD1.sec hkn
        have hbl2 : b2 < w.heap.size := hb2
        have hbl : b < w.heap.size := hb
        have k2 := (hb1.cell (p := ⟨b, off + k * 3 + 2, none⟩) (by simp; omega)).trans g2
        obtain ⟨t0, t1, t2, t3, t4, t5, t6, t7, tf⟩ := blk8 hrow1
        have hknl : (kn : Int) < l[k].2.2.length := by omega
        have hkn0 : (0 : Int) ≤ kn := by omega
        have HX := Lib.hid hx; clear hx
        have HK := Lib.hid hkk; clear hkk
        have hrow2 := Lib.hid (set8_row hrow1 (.int .u8 x0) (.int .u8 x1) (.int .u8 x2) (.int .u8 x3) (.int .u8 x4) (.int .u8 x5) (.int .u8 x6) (.int .u8 x7))
        clear hrow1 r0 r1 r2 r3 r4 r5 r6 r7 rf
        go_wp2
        obtain ⟨s0, s1, s2, s3, s4, s5, s6, s7, _⟩ := blk8 hrow2.out
        refine bodyPost_ret (v := .tuple #[.agg #[.int .u8 x0, .int .u8 x1, .int .u8 x2, .int .u8 x3, .int .u8 x4, .int .u8 x5, .int .u8 x6, .int .u8 x7], .bool true]) ?_ rfl ?_
        · simp only [set8] at s0 s1 s2 s3 s4 s5 s6 s7
          simp [results, Try.results28, go_sem, s0, s1, s2, s3, s4, s5, s6, s7]
        · have hl := look_take l k hlt V S (fun j hj hjk => HN.out j hj hjk)
          rw [List.take_succ_eq_append_getElem hlt, look_snoc, if_pos hh'] at hl
          have hd : datum l[k] S = [x0, x1, x2, x3, x4, x5, x6, x7] := by
            rw [← HX.out]
            have e1 : (S - l[k].2.1).toNat = kn := by have := HK.out; omega
            simp [datum, e1, hkn]
          exact ⟨x0, x1, x2, x3, x4, x5, x6, x7, true, rfl, by rw [← HX.out]; exact hok, by rw [hl]; rfl, by rw [hl]; exact hd, set8_below hB1 (Nat.le_refl _) _ _ _ _ _ _ _ _⟩
      · obtain ⟨rfl, hh⟩ := hq
        have HH := Lib.hid hh; clear hh
        clear r0 r1 r2 r3 r4 r5 r6 r7 rf g0 g1 g2
        go_wp2
        go_roundw
        case rel =>
          refine ⟨k, by omega, by go_num, hB.trans (hb1.mono hB.size), (hb1.block _ hblt).trans hrow.out, fun j hj hjk => ?_⟩
          by_cases e : j = k
          · subst e; exact HH.out
          · exact HN.out j hj (by omega)
        case measure => simp [intOf]
end Go.Proofs.Ytfahbhjlkdcnpaa
