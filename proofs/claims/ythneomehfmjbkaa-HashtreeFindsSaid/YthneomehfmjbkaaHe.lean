/-
  The walk of the code's digests of sectors, and of pairs.
-/
import Derived.Test.YthneomehfmjbkaaHd
set_option linter.unusedVariables false
set_option linter.unusedSimpArgs false
set_option linter.unusedSectionVars false
set_option linter.unnecessarySimpa false
namespace Go.Proofs.Ythneomehfmjbkaa
open Go.RowKit Go.Shelf
attribute [local go_sem] Oper.semAt_some

theorem index_sec (x0 x1 x2 x3 x4 x5 x6 x7 : Int) (m : Nat) (hm : m < 8) (w : World) :
    (Instr.index 50 (.agg #[.int .u8 x0, .int .u8 x1, .int .u8 x2, .int .u8 x3, .int .u8 x4, .int .u8 x5, .int .u8 x6, .int .u8 x7]) (.int .i64 (m : Int))).run Try.prog w = .ok (.int .u8 ([x0, x1, x2, x3, x4, x5, x6, x7][m]'hm)) w := by
  have h : m = 0 ∨ m = 1 ∨ m = 2 ∨ m = 3 ∨ m = 4 ∨ m = 5 ∨ m = 6 ∨ m = 7 := by omega
  rcases h with rfl | rfl | rfl | rfl | rfl | rfl | rfl | rfl <;> simp [Instr.index, run_underlying Try.underlying50, asIntOf, go_sem]
set_option maxRecDepth 100000 in
set_option maxHeartbeats 4000000 in
theorem secs_in (n : Nat) (hn : 1 ≤ n) (l Bs n₀ c : Nat) (A : Option Addr) (ss : List Sec) (hlen : ss.length ≤ 100000) (hBs : Bs < n₀) (J Jx : List Byt → World → Prop) (hn₀ : ∀ W, Below n₀ W W)
    (hJ : ∀ s W o, J s W → J s (W.alloc o))
    (hY : ∀ pre x W, J pre W → pre.length < 8 * ss.length → YieldAt Fence.wide (n - 1) Try.prog l (bytE x) W fun e W' =>
      (e = .returned (.bool true) ∧ J (pre ++ [x]) W' ∧ Below n₀ W W') ∨ (e = .returned (.bool false) ∧ Jx (pre ++ [x]) W'))
    (W : World) (hW : n₀ ≤ W.heap.size) (hc : W.cell? ⟨Bs, 0, none⟩ = some (.slice A ss.length c)) (hw : ∀ W', Below n₀ W W' → SlAt encSec W' (Bl n₀) A ss) (h0 : J [] W) :
    CallsIn Fence.wide n Try.prog 58 #[.func (.yield l) #[] #[], .pointer (some ⟨Bs, 0, none⟩)] W fun e W' => (∃ v, e = .returned v) ∧
      ((∃ ys : List Byt, bytsOf ys = ss.flatten ∧ J ys W') ∨ (∃ pre : List Byt, True ∧ Jx pre W')) := by
  have HW := Lib.hid hw
  have hfl : ∀ k, ((ss.take k).flatten).length = 8 * (ss.take k).length := fun k => flat_len _ (fun x hx => ((hw W (Below.refl _ _)).okSecs x ((List.take_sublist _ _).subset hx)).1)
  have HFL := Lib.hid hfl; clear hfl hw
  refine callsIn_of_wp Try.func58 rfl trivial ?_ rfl
  simp only [Try.ntmps58, List.size_toArray, List.length_cons, List.length_nil, Nat.reduceAdd, Nat.reduceSub, Array.replicate_succ, Array.replicate_zero, List.push_toArray, List.append_toArray, List.nil_append, List.cons_append]
  gi_wp2
  gi_loopw [9] (fun i wr => ∃ (k : Nat) (pre : List Byt), k ≤ ss.length ∧ i = .int .i64 (k : Int) ∧ Hid (bytsOf pre = (ss.take k).flatten) ∧ J pre wr ∧ Below n₀ W wr) (fun i _ => ss.length - (intOf i).toNat)
  case atStart => exact ⟨0, [], Nat.zero_le _, rfl, rfl, h0, Below.refl _ _⟩
  case round =>
    obtain ⟨k, pre, hk, rfl, hpre, hJs, hB⟩ := hrel
    have hcs := (hB.cell (p := ⟨Bs, 0, none⟩) hBs).trans hc
    clear hc
    by_cases hlt : k < ss.length
    · have hsz := hB.size
      obtain ⟨b, off, x0, x1, x2, x3, x4, x5, x6, x7, rfl, hb, hx, hok, c0, c1, c2, c3, c4, c5, c6, c7⟩ := (HW.out wr hB).sec hlt
      have HX := Lib.hid hx; have HOK := Lib.hid hok; clear hx hok
      have hnn : (0 : Int) ≤ k := by omega
      have hki : (k : Int) < ss.length := by omega
      have hb1 : b < wr.heap.size := by simp only [Bl] at hb; omega
      gi_wp2
      obtain ⟨W0, hW0⟩ : ∃ W0, wr.alloc (.cells #[.int .u8 x0, .int .u8 x1, .int .u8 x2, .int .u8 x3, .int .u8 x4, .int .u8 x5, .int .u8 x6, .int .u8 x7] 50) = W0 := ⟨_, rfl⟩
      have hJ0 : J pre W0 := by rw [← hW0]; exact hJ _ _ _ hJs
      have hB0 : Below n₀ W W0 := by rw [← hW0]; exact hB.alloc (by omega) _
      rw [hW0]
      clear c0 c1 c2 c3 c4 c5 c6 c7 hJs hcs
      gi_loopw [14] (fun i wr => ∃ (m : Nat) (pre : List Byt), m ≤ 8 ∧ i = .int .i64 (m : Int) ∧ Hid (bytsOf pre = (ss.take k).flatten ++ [x0, x1, x2, x3, x4, x5, x6, x7].take m) ∧ J pre wr ∧ Below n₀ W wr) (fun i _ => 8 - (intOf i).toNat)
      case atStart => exact ⟨0, pre, Nat.zero_le _, rfl, by rw [Hid, hpre.out]; simp, hJ0, hB0⟩
      case round =>
        clear hpre hB hJ0 hB0 hW0
        obtain ⟨m, pre, hm, rfl, hpre, hJs, hB⟩ := hrel
        by_cases hlm : m < 8
        · have hmm : (0 : Int) ≤ m := by omega
          have hmi : (m : Int) < 8 := by omega
          have hpl : pre.length < 8 * ss.length := by
            have h5 := congrArg List.length hpre.out
            have h6 := HFL.out k
            rw [bytsOf_len, List.length_append, h6, List.length_take, List.length_take, List.length_cons] at h5
            omega
          have hr : 0 ≤ [x0, x1, x2, x3, x4, x5, x6, x7][m]'hlm ∧ [x0, x1, x2, x3, x4, x5, x6, x7][m]'hlm < 256 := (HX.out ▸ HOK.out).2 _ (List.getElem_mem _)
          have hidx := index_sec x0 x1 x2 x3 x4 x5 x6 x7 m hlm wr
          obtain ⟨y, hy0⟩ : ∃ y, Hid (y = [x0, x1, x2, x3, x4, x5, x6, x7][m]'hlm) := ⟨_, Lib.hid rfl⟩
          rw [← hy0.out] at hr hidx
          obtain ⟨q1, q2⟩ := hr
          obtain ⟨fn, tmps, assign, body, hy, hR⟩ := hY pre ⟨y, q1, q2⟩ wr hJs hpl
          simp only [bytE] at hy
          gi_wp2
          refine hR.mono ?_
          have HY := Lib.hid hy; clear hy hidx
          rintro e W3 (⟨rfl, hJ3, hk3⟩ | ⟨rfl, hJx3⟩)
          · gi_wp2
            go_roundw
            case rel => exact ⟨m + 1, pre ++ [⟨y, q1, q2⟩], hlm, by go_num, by rw [Hid, bytsOf_snoc, hpre.out, List.take_succ_eq_append_getElem (l := [x0, x1, x2, x3, x4, x5, x6, x7]) hlm, List.append_assoc, ← hy0.out], hJ3, hB.trans hk3⟩
            case measure => simp [intOf]; omega
          · gi_wp2
            refine bodyPost_ret (results_none rfl _ _ _) rfl ?_
            exact ⟨⟨_, rfl⟩, .inr ⟨_, trivial, hJx3⟩⟩
        · have hmm : m = 8 := by omega
          subst hmm
          have hmi : ¬ (((8 : Nat) : Int) < 8) := by omega
          gi_wp2
          go_roundw
          case rel => exact ⟨k + 1, pre, hlt, by go_num, by rw [Hid, List.take_succ_eq_append_getElem hlt, List.flatten_append, HX.out, hpre.out]; simp, hJs, hB⟩
          case measure => simp [intOf]; omega
    · have hkk : k = ss.length := by omega
      subst hkk
      gi_wp2
      go_end0
      exact ⟨⟨_, rfl⟩, .inl ⟨pre, by rw [hpre.out, List.take_length], hJs⟩⟩
theorem secs_stops (n : Nat) (hn : 1 ≤ n) (Bs c n₀ : Nat) (A : Option Addr) (ss : List Sec) (hlen : ss.length ≤ 100000) (w : World) (hn₀ : n₀ ≤ w.heap.size) (hBs : Bs < n₀) (hc : w.cell? ⟨Bs, 0, none⟩ = some (.slice A ss.length c)) (hw : ∀ W', Below n₀ w W' → SlAt encSec W' (Bl n₀) A ss) :
    SeqStopsT (fun _ => False) Fence.wide n Try.prog 58 #[.pointer (some ⟨Bs, 0, none⟩)] bytE (Below n₀) (fun ys => bytsOf ys = ss.flatten) (fun _ => True) (8 * ss.length) w :=
  fun l J Jx W hW hJ hJx hY h0 => secs_in n hn l Bs n₀ c A ss hlen hBs J Jx (fun _ => Below.refl _ _) (fun s W o h => hJ s W _ none h (World.grownBy_alloc W o none) (fun r e => by cases e)) hY W (by have := hW.size; omega) ((hW.cell (p := ⟨Bs, 0, none⟩) (by simp; omega)).trans hc) (fun W' hb => hw W' ((hW.mono hn₀).trans hb)) h0
set_option maxHeartbeats 1000000 in
theorem digestSecs_any (A : Option Addr) (c n : Nat) (ss : List Sec) (r : Int) (w : World) (hn : ss.length = n) (hr : digS ss = r) (h1 : SlAt encSec w (Bl w.heap.size) A ss) (hl : n ≤ 100000) :
    Calls Try.prog 39 #[.slice A n c] w fun e w' => e = .returned (.int .u64 r) ∧ Below w.heap.size w w' := by
  subst hn
  have HC : Hid (∀ W, Below w.heap.size w W → W.heap.size = w.heap.size + 1 → W.cell? ⟨w.heap.size, 0, none⟩ = some (.slice A ss.length c) → Calls Try.prog 57 #[.func (.func 58) #[] #[.pointer (some ⟨w.heap.size, 0, none⟩)]] W fun e w' => e = .returned (.int .u64 r) ∧ Below W.heap.size W w') := fun W hB hs hcell =>
    digest_any 58 #[.pointer (some ⟨w.heap.size, 0, none⟩)] (enters_of Try.func58 (by kernel_rfl) rfl) ss.flatten r hr (8 * ss.length) (fun _ => True) W
      (fun n W1 hn hW => secs_stops n hn w.heap.size c W.heap.size A ss hl W1 hW.size (by omega) ((hW.cell (p := ⟨w.heap.size, 0, none⟩) (by simp; omega)).trans hcell) (fun W' hb => h1.belowUp (hB.trans ((hW.trans hb).mono (by omega))) (by omega)))
  clear h1
  have hcell : (w.alloc (.cells #[.slice A ss.length c] 22)).cell? ⟨w.heap.size, 0, none⟩ = some (.slice A ss.length c) := cell_of_row _ _ 0 _ _ _ (heap_alloc_new _ _)
  have HCL := Lib.hid hcell; clear hcell
  go_enter Try.func39, Try.ntmps39
  go_wp2_with fail
  refine (HC.out _ (ext_alloc (Below.refl _ _)) (by simp) HCL.out).mono ?_
  rintro e w1 ⟨rfl, hb1⟩
  go_wp2
  go_ret
  exact ⟨rfl, (ext_alloc (Below.refl _ _)).trans (hb1.mono (by simp))⟩
end Go.Proofs.Ythneomehfmjbkaa
