/-
  slices.Chunk over sectors, and the code's Build.
-/
import Derived.Test.YthneomehfmjbkaaHl
set_option linter.unusedVariables false
set_option linter.unusedSimpArgs false
set_option linter.unusedSectionVars false
set_option linter.unnecessarySimpa false
namespace Go.Proofs.Ythneomehfmjbkaa
open Go.RowKit Go.Shelf
attribute [local go_sem] Oper.semAt_some

def chE (l : List Sec) (m b off : Nat) (k : Nat) : Array Value := #[.slice (some ⟨b, off + k * m * 8, none⟩) (leafAt l m k).length (leafAt l m k).length]
theorem leaf_end {n m k : Nat} (hm : 1 ≤ m) (h : ¬ k * m < n) (hk : k ≤ leavesN n m) : k = leavesN n m := by
  refine Nat.le_antisymm hk ?_
  refine Nat.le_of_lt_succ ((Nat.div_lt_iff_lt_mul (by omega)).2 ?_)
  rw [Nat.succ_mul]; omega
theorem leaf_lt' {n m k : Nat} (hm : 1 ≤ m) (h : k * m < n) : k < leavesN n m := (Nat.le_div_iff_mul_le (by omega)).2 (by rw [Nat.succ_mul]; omega)
def KpC (Bs Bn : Nat) (W W' : World) : Prop := W'.cell? ⟨Bs, 0, none⟩ = W.cell? ⟨Bs, 0, none⟩ ∧ W'.cell? ⟨Bn, 0, none⟩ = W.cell? ⟨Bn, 0, none⟩
theorem KpC.trans {Bs Bn : Nat} {W W' W'' : World} (h : KpC Bs Bn W W') (k : KpC Bs Bn W' W'') : KpC Bs Bn W W'' := ⟨k.1.trans h.1, k.2.trans h.2⟩
theorem KpC.blk {Bs Bn : Nat} {W W' : World} (h1 : W'.heap[Bs]? = W.heap[Bs]?) (h2 : W'.heap[Bn]? = W.heap[Bn]?) : KpC Bs Bn W W' := ⟨World.cell?_of_block h1, World.cell?_of_block h2⟩
set_option maxRecDepth 100000 in
set_option maxHeartbeats 4000000 in
theorem chunk_in (n : Nat) (hn : 1 ≤ n) (y Bs Bn c b off m : Nat) (l : List Sec) (hm1 : 1 ≤ m) (hm2 : m ≤ 4096) (hl1 : 1 ≤ l.length) (hlen : l.length ≤ 4096) (hc : l.length ≤ c) (hc2 : c ≤ maxLen) (J Jx : List Nat → World → Prop)
    (hY : ∀ pre x W, J pre W → pre.length < leavesN l.length m → YieldAt Fence.wide (n - 1) Try.prog y (chE l m b off x) W fun e W' =>
      (e = .returned (.bool true) ∧ J (pre ++ [x]) W' ∧ KpC Bs Bn W W') ∨ (e = .returned (.bool false) ∧ Jx (pre ++ [x]) W'))
    (W : World) (hcs : W.cell? ⟨Bs, 0, none⟩ = some (.slice (some ⟨b, off, none⟩) l.length c)) (hcn : W.cell? ⟨Bn, 0, none⟩ = some (.int .i64 m)) (hJd : ∀ pre W, J pre W → J pre W.drew) (h0 : J [] W) :
    CallsIn Fence.wide n Try.prog 56 #[.func (.yield y) #[] #[], .pointer (some ⟨Bs, 0, none⟩), .pointer (some ⟨Bn, 0, none⟩)] W fun e W' => (∃ v, e = .returned v) ∧
      ((∃ ys : List Nat, ys = List.range (leavesN l.length m) ∧ J ys W') ∨ (∃ pre : List Nat, True ∧ Jx pre W')) := by
  unfold maxLen at hc2
  refine callsIn_of_wp Try.func56 rfl trivial ?_ rfl
  simp only [Try.ntmps56, List.size_toArray, List.length_cons, List.length_nil, Nat.reduceAdd, Nat.reduceSub, Array.replicate_succ, Array.replicate_zero, List.push_toArray, List.append_toArray, List.nil_append, List.cons_append]
  gi_wp2
  gi_loopw [4] (fun i wr => ∃ (k q : Nat), k ≤ leavesN l.length m ∧ Hid (q = k * m) ∧ i = .int .i64 (q : Int) ∧ q ≤ 10000 ∧ J (List.range k) wr ∧ KpC Bs Bn W wr) (fun i _ => l.length - (intOf i).toNat)
  case atStart => exact ⟨0, 0, Nat.zero_le _, by simp [Hid], rfl, by omega, h0, rfl, rfl⟩
  case round =>
    obtain ⟨k, q, hk, hq, rfl, hq2, hJs, hB⟩ := hrel
    have hcs' := hB.1.trans hcs
    have hcn' := hB.2.trans hcn
    clear hcs hcn
    have hnn : (0 : Int) ≤ q := by omega
    by_cases hlt : q < l.length
    · have hki : (q : Int) < l.length := by omega
      have hkn : k < leavesN l.length m := leaf_lt' hm1 (by rw [← hq.out]; exact hlt)
      obtain ⟨fn, tmps, assign, body, hy, hR⟩ := hY (List.range k) k wr.drew (hJd _ _ hJs) (by rw [List.length_range]; exact hkn)
      have hll := Lib.hid (leafAt_len l m k)
      by_cases hend : q + m ≤ l.length
      · have hE : chE l m b off k = #[.slice (some ⟨b, off + q * 8, none⟩) m m] := by
          unfold chE
          rw [hll.out, ← hq.out, Nat.min_eq_left (by omega)]
        rw [hE] at hy
        have hle : (m : Int) ≤ ((l.length - q : Nat) : Int) := by omega
        have hqm : ((q : Int) + m) ≤ (c : Int) := by omega
        clear hE
        gi_wp2
        gi_region
        gi_wp2
        refine hR.mono ?_
        have HY := Lib.hid hy; clear hy
        rintro e W3 (⟨rfl, hJ3, hk3⟩ | ⟨rfl, hJx3⟩)
        · have hcs3 : W3.cell? ⟨Bs, 0, none⟩ = _ := hk3.1.trans hcs'
          have hcn3 : W3.cell? ⟨Bn, 0, none⟩ = _ := hk3.2.trans hcn'
          gi_wp2
          go_roundw
          case rel => exact ⟨k + 1, q + m, hkn, by rw [Hid, hq.out, Nat.succ_mul], by go_num, by omega, by rw [List.range_succ]; exact hJ3, hB.trans hk3⟩
          case measure => simp [intOf]; omega
        · gi_wp2
          refine bodyPost_ret (results_none rfl _ _ _) rfl ?_
          exact ⟨⟨_, rfl⟩, .inr ⟨_, trivial, hJx3⟩⟩
      · have hE : chE l m b off k = #[.slice (some ⟨b, off + q * 8, none⟩) (l.length - q) (l.length - q)] := by
          unfold chE
          rw [hll.out, ← hq.out, Nat.min_eq_right (by omega)]
        rw [hE] at hy
        have hle : ¬ (m : Int) ≤ ((l.length - q : Nat) : Int) := by omega
        clear hE
        gi_wp2
        gi_region
        gi_wp2
        refine hR.mono ?_
        have HY := Lib.hid hy; clear hy
        rintro e W3 (⟨rfl, hJ3, hk3⟩ | ⟨rfl, hJx3⟩)
        · have hcs3 : W3.cell? ⟨Bs, 0, none⟩ = _ := hk3.1.trans hcs'
          have hcn3 : W3.cell? ⟨Bn, 0, none⟩ = _ := hk3.2.trans hcn'
          gi_wp2
          go_roundw
          case rel => exact ⟨k + 1, q + m, hkn, by rw [Hid, hq.out, Nat.succ_mul], by go_num, by omega, by rw [List.range_succ]; exact hJ3, hB.trans hk3⟩
          case measure => simp [intOf]; omega
        · gi_wp2
          refine bodyPost_ret (results_none rfl _ _ _) rfl ?_
          exact ⟨⟨_, rfl⟩, .inr ⟨_, trivial, hJx3⟩⟩
    · have hke : k = leavesN l.length m := leaf_end hm1 (by rw [← hq.out]; exact hlt) hk
      have hki : (l.length : Int) ≤ (q : Int) := by omega
      gi_wp2
      go_end0
      exact ⟨⟨_, rfl⟩, .inl ⟨List.range k, by rw [hke], hJs⟩⟩
theorem chunk_stops (n : Nat) (hn : 1 ≤ n) (Bs Bn c b off m : Nat) (l : List Sec) (hm1 : 1 ≤ m) (hm2 : m ≤ 4096) (hl1 : 1 ≤ l.length) (hlen : l.length ≤ 4096) (hc : l.length ≤ c) (hc2 : c ≤ maxLen) (w : World) (hBs : Bs < w.heap.size) (hBn : Bn < w.heap.size)
    (hcs : w.cell? ⟨Bs, 0, none⟩ = some (.slice (some ⟨b, off, none⟩) l.length c)) (hcn : w.cell? ⟨Bn, 0, none⟩ = some (.int .i64 m)) :
    SeqStopsT (fun _ => False) Fence.wide n Try.prog 56 #[.pointer (some ⟨Bs, 0, none⟩), .pointer (some ⟨Bn, 0, none⟩)] (chE l m b off) (KpC Bs Bn) (fun ys => ys = List.range (leavesN l.length m)) (fun _ => True) (leavesN l.length m) w :=
  fun y J Jx W hW hJ hJx hY h0 => chunk_in n hn y Bs Bn c b off m l hm1 hm2 hl1 hlen hc hc2 J Jx hY W ((hW.cell (p := ⟨Bs, 0, none⟩) hBs).trans hcs) ((hW.cell (p := ⟨Bn, 0, none⟩) hBn).trans hcn)
    (fun s W h => hJ s W _ none h ⟨rfl, rfl, rfl, Nat.le_refl _, fun _ _ _ => rfl⟩ (fun r e => by cases e)) h0
theorem chunk_any (A : Option Addr) (n c : Nat) (m : Int) (hm : 1 ≤ m) (w : World) : Calls Try.prog 38 #[.slice A n c, .int .i64 m] w fun e w' => e = .returned (.func (.func 56) #[] #[.pointer (some ⟨w.heap.size, 0, none⟩), .pointer (some ⟨w.heap.size + 1, 0, none⟩)]) ∧ w' = (w.alloc (.cells #[.slice A n c] 22)).alloc (.cells #[.int .i64 m] 3) := by
  go_enter Try.func38, Try.ntmps38
  go_wp2
  go_ret
  exact ⟨rfl, rfl⟩
end Go.Proofs.Ythneomehfmjbkaa
