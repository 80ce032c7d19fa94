/-
  The walks of extent.within and extent.Contains.
-/
import Derived.Test.YtgmeghandjkkcaaGreatCb
import Derived.Test.YtgmeghandjkkcaaGreatUs
set_option linter.unusedVariables false
set_option linter.unusedSimpArgs false
set_option linter.unusedSectionVars false
set_option linter.unnecessarySimpa false
namespace Go.Proofs.YtgmeghandjkkcaaGreat
open Go.RowKit

def withinN (e : Ext) : Prop := 0 < e.2 ∧ e.1 < 4096 ∧ 0 < e.1 + e.2
/-- what within returns: the part of an extent in 0 to 4096 -/
def WithinRet (e0 : Ext) (w : World) (e : Ending) (w' : World) : Prop :=
  ∃ f t q, e = .returned (.tuple #[.int .i64 f, .int .i64 t, .bool q]) ∧ (q = true ↔ f < t) ∧ 0 ≤ f ∧ t ≤ 4096 ∧ (q = true → ∀ x : Int, (f ≤ x ∧ x < t) ↔ (0 ≤ x ∧ x < 4096 ∧ e0.1 ≤ x ∧ x < e0.1 + e0.2)) ∧ (q = false → ∀ x : Int, ¬ (0 ≤ x ∧ x < 4096 ∧ e0.1 ≤ x ∧ x < e0.1 + e0.2)) ∧ Below w.heap.size w w'
theorem WithinRet.mk {s n f t : Int} {q : Bool} {w w' : World} (hq : q = decide (f < t)) (hf : 0 ≤ f) (ht : t ≤ 4096) (h : ∀ x : Int, (f ≤ x ∧ x < t) ↔ (0 ≤ x ∧ x < 4096 ∧ s ≤ x ∧ x < s + n)) (hb : Below w.heap.size w w') :
    WithinRet (s, n) w (.returned (.tuple #[.int .i64 f, .int .i64 t, .bool q])) w' := by
  subst hq
  refine ⟨f, t, _, rfl, by simp, hf, ht, fun _ => h, fun hq x hx => ?_, hb⟩
  have := (h x).2 hx
  have h2 : ¬ f < t := by simpa using hq
  omega
theorem within_any (s n : Int) (w : World) (hs : I64 s) (hn : I64 n) : Calls Tryz.prog 58 #[.agg #[.int .i64 s, .int .i64 n]] w (WithinRet (s, n) w) := by
  obtain ⟨hs1, hs2⟩ := hs
  obtain ⟨hn1, hn2⟩ := hn
  have hb1 : Hid (∀ o, Below w.heap.size w (w.alloc o)) := fun o => (Below.refl _ _).alloc (Nat.le_refl _) o
  by_cases c1 : n ≤ 0
  · go_enter Tryz.func58, Tryz.ntmps58
    go_wp2
    go_ret3
    exact WithinRet.mk (by simp) (by omega) (by omega) (fun x => by omega) (hb1.out _)
  · by_cases c2 : s < 0
    · by_cases c3 : s + n ≤ 4096
      · go_enter Tryz.func58, Tryz.ntmps58
        go_wp2
        go_ret3
        exact WithinRet.mk rfl (by omega) (by omega) (fun x => by omega) (hb1.out _)
      · go_enter Tryz.func58, Tryz.ntmps58
        go_wp2
        go_ret3
        exact WithinRet.mk rfl (by omega) (by omega) (fun x => by omega) (hb1.out _)
    · by_cases c3 : n < 4096 - s
      · go_enter Tryz.func58, Tryz.ntmps58
        go_wp2
        all_goals go_ret3
        all_goals exact WithinRet.mk rfl (by omega) (by omega) (fun x => by omega) (hb1.out _)
      · go_enter Tryz.func58, Tryz.ntmps58
        go_wp2
        all_goals go_ret3
        all_goals exact WithinRet.mk rfl (by omega) (by omega) (fun x => by omega) (hb1.out _)
end Go.Proofs.YtgmeghandjkkcaaGreat
namespace Go.Proofs.YtgmeghandjkkcaaGreat
open Go.RowKit

theorem contains1_any (s n x : Int) (bx : Nat) (w : World) (hs : I64 s) (hn : I64 n) (hx : w.cell? ⟨bx, 0, none⟩ = some (.int .i64 x)) (hb : bx < w.heap.size) (q : Bool) (hq : inExt x (s, n) = q) :
    Calls Tryz.prog 57 #[.agg #[.int .i64 s, .int .i64 n], .pointer (some ⟨bx, 0, none⟩)] w fun e w' => e = .returned (.bool q) ∧ Below w.heap.size w w' := by
  have HQ := Lib.hid hq; clear hq
  have HS := Lib.hid hs; have HN := Lib.hid hn; clear hs hn
  go_enter Tryz.func57, Tryz.ntmps57
  go_wp2_with fail
  refine (within_any s n _ HS.out HN.out).mono ?_
  rintro e w1 ⟨f, t, q1, rfl, hft, hf, ht, hyes, hno, hb1⟩
  have hx1 : w1.cell? ⟨bx, 0, none⟩ = some (.int .i64 x) := (hb1.cell (p := ⟨bx, 0, none⟩) (by simp; omega)).trans ((World.cell?_alloc_lt w _ ⟨bx, 0, none⟩ hb).trans hx)
  have hB : Hid (Below w.heap.size w w1) := ((Below.refl _ _).alloc (Nat.le_refl _) _).trans (hb1.mono (by simp))
  have hE : Hid (inExt x (s, n) = (q1 && decide (f ≤ x) && decide (x < t))) := by
    cases q1 with
    | true =>
      have := hyes rfl x
      simp only [inExt, Bool.true_and, ← Bool.decide_and]
      rw [Hid, decide_eq_decide]
      exact this.symm
    | false =>
      have := hno rfl x
      simp only [Hid, inExt, Bool.false_and, decide_eq_false_iff_not]
      exact this
  clear hft hyes hno hx
  cases q1 with
  | false =>
    go_wp2
    go_ret
    exact ⟨ret_bool (by rw [← HQ.out, hE.out]; rfl), hB.out⟩
  | true =>
    by_cases c1 : f ≤ x
    · by_cases c2 : x < t
      · go_wp2
        go_ret
        exact ⟨ret_bool (by rw [← HQ.out, hE.out]; simp [c1, c2]), hB.out⟩
      · go_wp2
        go_ret
        exact ⟨ret_bool (by rw [← HQ.out, hE.out]; simp [c1, c2]), hB.out⟩
    · go_wp2
      go_ret
      exact ⟨ret_bool (by rw [← HQ.out, hE.out]; simp; omega), hB.out⟩
theorem indexFuncE_any (A : Option Addr) (c : Nat) (l : List Ext) (x : Int) (bx : Nat) (w : World) (h1 : SlAt encExt w (Bl w.heap.size) A l) (hs : l.length ≤ 9223372036854775807) (hx : w.cell? ⟨bx, 0, none⟩ = some (.int .i64 x)) (hb : bx < w.heap.size) :
    Calls Tryz.prog 90 #[.slice A l.length c, .func (.func 57) #[] #[.pointer (some ⟨bx, 0, none⟩)]] w fun e w' => (∃ i : Int, e = .returned (.int .i64 i) ∧ (decide (0 ≤ i) = l.any (inExt x))) ∧ Below w.heap.size w w' := by
  have H2 : Hid (∀ w', Below w.heap.size w w' → SlAt encExt w' (Bl w.heap.size) A l) := fun w' hb => h1.below hb
  have HX : Hid (∀ w', Below w.heap.size w w' → w'.cell? ⟨bx, 0, none⟩ = some (.int .i64 x)) := fun w' hb' => (hb'.cell (p := ⟨bx, 0, none⟩) hb).trans hx
  clear h1 hx
  go_enter Tryz.func90, Tryz.ntmps90
  go_wp2
  go_loopw [8] (fun i wr => ∃ k : Nat, k ≤ l.length ∧ i = .int .i64 k ∧ Below w.heap.size w wr ∧ Hid (∀ y ∈ l.take k, inExt x y = false)) (fun i _ => l.length - (intOf i).toNat)
  case atStart => exact ⟨0, by omega, rfl, Below.refl _ _, by simp [Hid]⟩
  case round =>
    obtain ⟨k, hk, rfl, hB, hz⟩ := hrel
    by_cases hlt : k < l.length
    · obtain ⟨b, off, rfl, hbb, g0, g1, hi1, hi2⟩ := (H2.out wr hB).ext hlt
      have hnn : (0 : Int) ≤ k := by omega
      have hki : (k : Int) < l.length := by omega
      have hsz := hB.size
      obtain ⟨q, hq⟩ : ∃ q, Hid (inExt x l[k] = q) := ⟨inExt x l[k], Lib.hid rfl⟩
      go_wp2_with fail
      refine (contains1_any _ _ x bx wr hi1 hi2 (HX.out wr hB) (by omega) q hq.out).mono ?_
      rintro e w1 ⟨rfl, hb1⟩
      have hB1 : Below w.heap.size w w1 := hB.trans (hb1.mono hsz)
      cases q with
      | true =>
        go_wp2
        go_ret
        refine ⟨⟨k, rfl, ?_⟩, hB1⟩
        rw [decide_eq_true hnn, eq_comm, List.any_eq_true]
        exact ⟨l[k], List.getElem_mem hlt, hq.out⟩
      | false =>
        clear g0 g1
        go_wp2
        go_roundw
        case rel =>
          refine ⟨k + 1, hlt, by go_num, hB1, ?_⟩
          intro y hy
          rw [List.take_succ_eq_append_getElem hlt] at hy
          rcases List.mem_append.1 hy with hy | hy
          · exact hz.out y hy
          · rw [List.mem_singleton.1 hy]; exact hq.out
        case measure => simp [intOf]; omega
    · have hkk : k = l.length := by omega
      subst hkk
      go_wp2
      go_ret
      refine ⟨⟨-1, rfl, ?_⟩, hB⟩
      have := hz.out
      rw [List.take_length] at this
      rw [eq_comm]
      show l.any (inExt x) = false
      rw [List.any_eq_false]
      intro y hy
      simp [this y hy]
theorem containsFuncE_any (A : Option Addr) (c : Nat) (l : List Ext) (x : Int) (bx : Nat) (w : World) (h1 : SlAt encExt w (Bl w.heap.size) A l) (hs : l.length ≤ 9223372036854775807) (hx : w.cell? ⟨bx, 0, none⟩ = some (.int .i64 x)) (hb : bx < w.heap.size) :
    Calls Tryz.prog 56 #[.slice A l.length c, .func (.func 57) #[] #[.pointer (some ⟨bx, 0, none⟩)]] w fun e w' => e = .returned (.bool (l.any (inExt x))) ∧ Below w.heap.size w w' := by
  have hc := Lib.hid (indexFuncE_any A c l x bx w h1 hs hx hb)
  clear h1 hx
  obtain ⟨q, hq⟩ : ∃ q, Hid (l.any (inExt x) = q) := ⟨_, Lib.hid rfl⟩
  rw [hq.out] at hc ⊢
  go_enter Tryz.func56, Tryz.ntmps56
  go_wp2_with fail
  refine hc.out.mono ?_
  rintro e w1 ⟨⟨i, rfl, hi⟩, hb1⟩
  go_wp2
  go_ret
  exact ⟨rfl, hb1⟩
theorem contains_any (A : Option Addr) (c : Nat) (l : List Ext) (x : Int) (w : World) (h1 : SlAt encExt w (Bl w.heap.size) A l) (hs : l.length ≤ 9223372036854775807) (q : Bool) (hq : l.any (inExt x) = q) :
    Calls Tryz.prog 27 #[.slice A l.length c, .int .i64 x] w fun e w' => e = .returned (.bool q) ∧ Below w.heap.size w w' := by
  have hbx : Below w.heap.size w (w.alloc (.cells #[.int .i64 x] 3)) := (Below.refl _ _).alloc (Nat.le_refl _) _
  have hc := Lib.hid (containsFuncE_any A c l x w.heap.size (w.alloc (.cells #[.int .i64 x] 3)) (h1.belowUp hbx hbx.size) hs (by simp) (by simp))
  rw [hq] at hc
  have HQ := Lib.hid hq; clear hq h1 hbx
  go_enter Tryz.func27, Tryz.ntmps27
  go_wp2_with fail
  refine hc.out.mono ?_
  rintro e w1 ⟨rfl, hb1⟩
  go_wp2
  go_ret
  exact ⟨rfl, ((Below.refl _ _).alloc (Nat.le_refl _) _).trans (hb1.mono (by simp))⟩
end Go.Proofs.YtgmeghandjkkcaaGreat
