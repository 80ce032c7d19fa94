/-
  Plain words: lists of marks, and how a rule's intervals mark them. No program in sight.
  retention.newest, intervals: their closures: the walks.
  retention.intervals: its closure: the walk.
  retention.newest, intervals, marks: the walks.
-/
import Derived.Test.YtnkmklnlaepdeaaGreatY4
import Derived.Test.YtnkmklnlaepdeaaGreatYe
import Derived.Deep.OwnRows
import Derived.Laws.OwnMore
import Derived.Test.YtnkmklnlaepdeaaGreatSn1
set_option linter.unusedVariables false
set_option linter.unusedSimpArgs false
set_option linter.unusedSectionVars false
set_option linter.unnecessarySimpa false
namespace Go.Proofs.YtnkmklnlaepdeaaGreat

/-- the marks of the first n numbers -/
def bl (n : Nat) (f : Nat → Bool) : List Bool := (List.range n).map f
theorem bl_len (n : Nat) (f : Nat → Bool) : (bl n f).length = n := by simp [bl]
theorem bl_at {n : Nat} {f : Nat → Bool} {i : Nat} (h : i < n) : (bl n f)[i]'(by rw [bl_len]; exact h) = f i := by simp [bl]
theorem bl_congr {n : Nat} {f g : Nat → Bool} (h : ∀ i, i < n → f i = g i) : bl n f = bl n g := by
  unfold bl; exact List.map_congr_left fun i hi => h i (List.mem_range.1 hi)
theorem bl_set {n : Nat} {f : Nat → Bool} (j : Nat) : (bl n f).set j true = bl n fun i => f i || i == j := by
  apply List.ext_getElem
  · simp [bl]
  · intro i h1 h2
    rw [List.getElem_set]
    simp only [bl, List.getElem_map, List.getElem_range]
    by_cases e : j = i
    · subst e; simp
    · rw [if_neg e]
      have : (i == j) = false := by simp; omega
      rw [this, Bool.or_false]
theorem bl_false (n : Nat) : bl n (fun _ => false) = List.replicate n false := by
  apply List.ext_getElem <;> simp [bl]
/-- the last of the first times that has a property -/
def lastTo (P : Int → Bool) (ts : List Int) (j : Nat) : Int := (List.range j).foldl (fun a i => if P (ts.getD i 0) then (i : Int) else a) (-1)
theorem lastTo_succ (P : Int → Bool) (ts : List Int) (j : Nat) : lastTo P ts (j + 1) = if P (ts.getD j 0) then (j : Int) else lastTo P ts j := by
  unfold lastTo; rw [List.range_succ, List.foldl_append]; rfl
theorem lastTo_cases (P : Int → Bool) (ts : List Int) : ∀ j, (lastTo P ts j = -1 ∧ ∀ i, i < j → P (ts.getD i 0) = false) ∨ ∃ i : Nat, i < j ∧ lastTo P ts j = i ∧ P (ts.getD i 0) = true ∧ ∀ n, i < n → n < j → P (ts.getD n 0) = false
  | 0 => Or.inl ⟨rfl, by omega⟩
  | j + 1 => by
    rw [lastTo_succ]
    cases h : P (ts.getD j 0) with
    | true => exact Or.inr ⟨j, by omega, rfl, h, by omega⟩
    | false =>
      rcases lastTo_cases P ts j with ⟨h1, h2⟩ | ⟨i, h1, h2, h3, h4⟩
      · refine Or.inl ⟨h1, fun i hi => ?_⟩
        by_cases e : i = j
        · rw [e]; exact h
        · exact h2 i (by omega)
      · refine Or.inr ⟨i, by omega, h2, h3, fun n hn hn' => ?_⟩
        by_cases e : n = j
        · rw [e]; exact h
        · exact h4 n hn (by omega)
def inK (e now k : Int) (t : Int) : Bool := decide (t / e = k) && decide (t ≤ now)
/-- the mark of one interval -/
def markK (e now k : Int) (ts : List Int) (i : Nat) : Bool := inK e now k (ts.getD i 0) && noLater e now k (ts.drop (i + 1))
theorem noLater_drop {e now k : Int} {ts : List Int} {i : Nat} : noLater e now k (ts.drop (i + 1)) = true ↔ ∀ n, i < n → n < ts.length → inK e now k (ts.getD n 0) = false := by
  unfold noLater
  rw [List.all_eq_true]
  constructor
  · intro h n hn hn'
    have := h (ts.getD n 0) (by
      have e : ts.getD n 0 = (ts.drop (i + 1))[n - (i + 1)]'(by simp; omega) := by
        rw [List.getElem_drop, List.getD_eq_getElem?_getD]
        simp only [show i + 1 + (n - (i + 1)) = n by omega, List.getElem?_eq_getElem hn', Option.getD_some]
      rw [e]; exact List.getElem_mem _)
    unfold inK
    rw [Bool.and_comm]
    simpa only [Bool.not_eq_true'] using this
  · intro h x hx
    obtain ⟨m, hm, rfl⟩ := List.mem_iff_getElem.1 hx
    rw [List.length_drop] at hm
    have := h (i + 1 + m) (by omega) (by omega)
    rw [List.getElem_drop]
    unfold inK at this
    rw [List.getD_eq_getElem?_getD, List.getElem?_eq_getElem (by omega), Option.getD_some, Bool.and_comm] at this
    simp only [this, Bool.not_false]
theorem markK_last {e now k : Int} {ts : List Int} {i : Nat} (hi : i < ts.length) : markK e now k ts i = ((i : Int) == lastTo (inK e now k) ts ts.length) := by
  rw [Bool.eq_iff_iff]
  unfold markK
  rw [Bool.and_eq_true, noLater_drop, beq_iff_eq]
  rcases lastTo_cases (inK e now k) ts ts.length with ⟨h1, h2⟩ | ⟨q, h1, h2, h3, h4⟩
  · rw [h1]
    constructor
    · rintro ⟨h, _⟩; rw [h2 i hi] at h; cases h
    · intro h; omega
  · rw [h2]
    constructor
    · rintro ⟨h, h'⟩
      by_cases e1 : i < q
      · have := h' q e1 h1; rw [h3] at this; cases this
      · by_cases e2 : q < i
        · have := h4 i e2 hi; rw [h] at this; cases this
        · omega
    · intro h
      have : i = q := by omega
      subst this
      exact ⟨h3, h4⟩
/-- the marks when all intervals behind k are done -/
def markF (f0 : Nat → Bool) (r : Rule) (ts : List Int) (now k : Int) (i : Nat) : Bool := f0 i || (ruledB r ts now i && decide (k < ts.getD i 0 / r.1))
theorem ruled_at {r : Rule} {ts : List Int} {now k : Int} {i : Nat} (hk : now / r.1 - r.2 < k) : (ruledB r ts now i && decide (ts.getD i 0 / r.1 = k)) = markK r.1 now k ts i := by
  unfold ruledB markK inK
  by_cases e : ts.getD i 0 / r.1 = k
  · rw [e, decide_eq_true hk]; simp
  · rw [decide_eq_false e, Bool.and_false, Bool.false_and, Bool.false_and]
theorem markF_start {f0 : Nat → Bool} {r : Rule} {ts : List Int} {now : Int} (h1 : 1 ≤ r.1) (i : Nat) : markF f0 r ts now (now / r.1) i = f0 i := by
  unfold markF
  have : (ruledB r ts now i && decide (now / r.1 < ts.getD i 0 / r.1)) = false := by
    rw [Bool.and_eq_false_iff]
    by_cases h : ts.getD i 0 ≤ now
    · have := Int.ediv_le_ediv (show (0 : Int) < r.1 by omega) h
      exact Or.inr (decide_eq_false (by omega))
    · left; unfold ruledB; rw [decide_eq_false h]; rfl
  rw [this, Bool.or_false]
theorem markF_step {f0 : Nat → Bool} {r : Rule} {ts : List Int} {now k : Int} (hk : now / r.1 - r.2 < k) {i : Nat} (hi : i < ts.length) : markF f0 r ts now (k - 1) i = (markF f0 r ts now k i || ((i : Int) == lastTo (inK r.1 now k) ts ts.length)) := by
  rw [← markK_last hi, ← ruled_at hk]
  unfold markF
  have e : decide (k - 1 < ts.getD i 0 / r.1) = (decide (k < ts.getD i 0 / r.1) || decide (ts.getD i 0 / r.1 = k)) := by
    rw [← Bool.decide_or, decide_eq_decide]; omega
  rw [e]
  cases f0 i <;> cases ruledB r ts now i <;> simp
theorem markF_end {f0 : Nat → Bool} {r : Rule} {ts : List Int} {now k : Int} {i : Nat} (h : k < ts.getD i 0 / r.1 ∨ k ≤ now / r.1 - r.2) : markF f0 r ts now k i = (f0 i || ruledB r ts now i) := by
  unfold markF
  congr 1
  rcases h with h | h
  · rw [decide_eq_true h, Bool.and_true]
  · cases hr : ruledB r ts now i with
    | false => rfl
    | true =>
      unfold ruledB at hr
      simp only [Bool.and_eq_true, decide_eq_true_eq] at hr
      rw [decide_eq_true (by omega)]; rfl
theorem keptB_any (p : Pol) (ts : List Int) (now : Int) (i : Nat) : keptB p ts now i = (decide ((ts.length : Int) - p.1 ≤ i) || p.2.any fun r => ruledB r ts now i) := rfl
end Go.Proofs.YtnkmklnlaepdeaaGreat

namespace Go.Proofs.YtnkmklnlaepdeaaGreat
open Go.RowKit Go.Shelf
attribute [local go_sem] Oper.semAt_some

theorem grown_reflR (w : World) (r : Option Nat) : w.grownBy w r := ⟨rfl, rfl, rfl, Nat.le_refl _, fun _ _ _ => rfl⟩
theorem grown_transR {a b c : World} {r : Option Nat} (h : a.grownBy b r) (k : b.grownBy c r) : a.grownBy c r :=
  ⟨k.os.trans h.os, k.tape.trans h.tape, k.output.trans h.output, Nat.le_trans h.size k.size, fun i hi hn => (k.block i (Nat.lt_of_lt_of_le hi h.size) hn).trans (h.block i hi hn)⟩
theorem grown_drewR {a b : World} {r : Option Nat} (h : a.grownBy b r) (n : Nat) : a.grownBy (b.drewN n) r := ⟨h.os, h.tape, h.output, h.size, h.block⟩
theorem grown_setR {a b : World} {g : Nat} (h : a.grownBy b (some g)) (j : Nat) (v : Value) : a.grownBy (b.setCell ⟨g, j, none⟩ v) (some g) :=
  ⟨h.os, h.tape, h.output, by have := h.size; simpa [World.setCell] using this, fun k hk hn => (heap_setCell_other b ⟨g, j, none⟩ k v (by show k ≠ g; intro e; exact hn (by rw [e]))).trans (h.block k hk hn)⟩
theorem grown_ofBelow {a b : World} {g : Nat} (h : Below a.heap.size a b) : a.grownBy b (some g) := ⟨h.os, h.tape, h.output, h.size, fun k hk _ => h.block k hk⟩
/-- marks in memory: the block g -/
def MarkAt (w : World) (g n : Nat) (f : Nat → Bool) : Prop := w.heap[g]? = some (.cells ((bl n f).map Value.bool).toArray 4 (0, 0))
section
variable {w w' : World} {g n : Nat} {f f' : Nat → Bool}
theorem MarkAt.set (h : MarkAt w g n f) (j : Nat) : MarkAt (w.setCell ⟨g, j, none⟩ (.bool true)) g n (fun i => f i || i == j) := by
  have e : ((bl n fun i => f i || i == j).map Value.bool).toArray = ((bl n f).map Value.bool).toArray.set! j (.bool true) := by
    rw [← bl_set, List.map_set]; simp
  unfold MarkAt at *
  rw [e]
  simp [World.setCell, Array.getElem?_modify, h]
theorem MarkAt.cell (h : MarkAt w g n f) {j : Nat} (hj : j < n) : w.cell? ⟨g, j, none⟩ = some (.bool (f j)) ∧ w.frozen? ⟨g, j, none⟩ = false := by
  unfold MarkAt at h
  refine ⟨?_, by simp [World.frozen?, h]⟩
  rw [cell_of_row w g j _ 4 _ h]
  simp [bl, hj]
theorem MarkAt.congr (h : MarkAt w g n f) (hf : ∀ i, i < n → f i = f' i) : MarkAt w g n f' := by
  unfold MarkAt at *
  rw [← bl_congr hf]; exact h
theorem MarkAt.blk (h : MarkAt w g n f) (hb : w'.heap[g]? = w.heap[g]?) : MarkAt w' g n f := hb.trans h
theorem MarkAt.lt (h : MarkAt w g n f) : g < w.heap.size := (Array.getElem?_eq_some_iff.1 h).1
end
set_option maxHeartbeats 4000000 in
set_option maxRecDepth 100000 in
theorem newest1_any (A : Option Addr) (c ck n g pb : Nat) (nw : Int) (f : Nat → Bool) (w : World) (hp : w.cell? ⟨pb, 0, none⟩ = some (.int .i64 nw)) (hnw : 0 ≤ nw ∧ nw ≤ 1024) (hn : n ≤ 100000) (hm : MarkAt w g n f) :
    Calls Tryz.prog 67 #[.slice A n c, .slice (some ⟨g, 0, none⟩) n ck, .pointer (some ⟨pb, 0, none⟩)] w fun e w' => e = .returned (.tuple #[]) ∧ w.grownBy w' (some g) ∧ MarkAt w' g n (fun j => f j || decide ((n : Int) - nw ≤ j)) := by
  have HM := Lib.hid hm
  clear hm
  obtain ⟨k0, hk0⟩ : ∃ k0 : Nat, max ((n : Int) - nw) 0 = k0 := ⟨(max ((n : Int) - nw) 0).toNat, by omega⟩
  have hk0n : k0 ≤ n := by omega
  have HK := Lib.hid hk0
  obtain ⟨hnw0, hnw1⟩ := hnw
  go_enter Tryz.func67, Tryz.ntmps67
  go_wp2_with fail
  all_goals
    clear hk0
    go_loopw [5] (fun i wr => ∃ k : Nat, k0 ≤ k ∧ k ≤ n ∧ i = .int .i64 k ∧ w.grownBy wr (some g) ∧ Hid (MarkAt wr g n (fun j => f j || (decide ((n : Int) - nw ≤ j) && decide (j < k))))) (fun i _ => n - (intOf i).toNat)
    case atStart => exact ⟨k0, Nat.le_refl _, hk0n, congrArg (Value.int .i64) (by have := HK.out; omega), grown_reflR _ _, HM.out.congr (fun i _ => by
      have e : (decide ((n : Int) - nw ≤ (i : Int)) && decide (i < k0)) = false := by
        have := HK.out
        rw [Bool.and_eq_false_iff, decide_eq_false_iff_not, decide_eq_false_iff_not]; omega
      rw [e, Bool.or_false])⟩
    case round =>
      obtain ⟨k, hk1, hk, rfl, hG, hM⟩ := hrel
      by_cases hlt : k < n
      · have hki : (k : Int) < n := by omega
        have hnn : (0 : Int) ≤ k := by omega
        obtain ⟨c0, c1⟩ := hM.out.cell hlt
        go_wp2
        go_roundw
        case rel =>
          refine ⟨k + 1, by omega, hlt, by go_num, grown_setR hG k _, (hM.out.set k).congr fun i hi => ?_⟩
          by_cases e : i = k
          · subst e
            have e1 : decide ((n : Int) - nw ≤ (i : Int)) = true := decide_eq_true (by have := HK.out; omega)
            rw [e1]; simp
          · have e1 : (i == k) = false := by simp [e]
            have e2 : decide (i < k + 1) = decide (i < k) := by rw [decide_eq_decide]; omega
            rw [e1, e2, Bool.or_false]
        case measure => simp [intOf]; omega
      · have hkk : k = n := by omega
        subst hkk
        go_wp2
        go_end0
        refine ⟨rfl, hG, hM.out.congr fun i hi => ?_⟩
        rw [decide_eq_true hi, Bool.and_true]
end Go.Proofs.YtnkmklnlaepdeaaGreat

namespace Go.Proofs.YtnkmklnlaepdeaaGreat
open Go.RowKit Go.Shelf
attribute [local go_sem] Oper.semAt_some

set_option maxHeartbeats 4000000 in
set_option maxRecDepth 100000 in
theorem intervals1_any (A : Option Addr) (c ck n g nb rb : Nat) (ev ct now : Int) (ts : List Int) (f : Nat → Bool) (w : World) (hp : w.cell? ⟨nb, 0, none⟩ = some (.int .i64 now)) (hnb : nb ≠ g) (hrb : rb ≠ g) (hr : w.cell? ⟨rb, 0, none⟩ = some (.int .i64 ev) ∧ w.cell? ⟨rb, 1, none⟩ = some (.int .i64 ct))
    (hts : ts.length = n) (h1 : SlAt encInt w (fun b => b < w.heap.size ∧ b ≠ g) A ts) (hn : n ≤ 100000) (hev : 1 ≤ ev ∧ ev ≤ 1073741824) (hct : 1 ≤ ct ∧ ct ≤ 1024) (hnow : 0 ≤ now ∧ now ≤ 1073741824) (hs : (∀ t ∈ ts, 0 ≤ t ∧ t ≤ 1073741824) ∧ ts.Pairwise (· ≤ ·)) (hm : MarkAt w g n f) :
    Calls Tryz.prog 68 #[.slice A n c, .slice (some ⟨g, 0, none⟩) n ck, .pointer (some ⟨nb, 0, none⟩), .pointer (some ⟨rb, 0, none⟩)] w fun e w' => e = .returned (.tuple #[]) ∧ w.grownBy w' (some g) ∧ MarkAt w' g n (fun j => f j || ruledB (ev, ct) ts now j) := by
  have HM := Lib.hid hm
  have hrbl : rb < w.heap.size := World.block_lt_of_cell? w _ hr.1
  have hnbl : nb < w.heap.size := World.block_lt_of_cell? w _ hp
  have HC : Hid (∀ W, w.grownBy W (some g) → W.cell? ⟨nb, 0, none⟩ = some (.int .i64 now) ∧ W.cell? ⟨rb, 0, none⟩ = some (.int .i64 ev) ∧ W.cell? ⟨rb, 1, none⟩ = some (.int .i64 ct) ∧ Hid (SlAt encInt W (fun b => b < w.heap.size ∧ b ≠ g) A ts)) := fun W hg => by
    have hrk := hg.block rb hrbl (by simp [hrb])
    have x0 := (World.cell?_of_block (a := ⟨rb, 0, none⟩) hrk).trans hr.1
    have x1 := (World.cell?_of_block (a := ⟨rb, 1, none⟩) hrk).trans hr.2
    exact ⟨(World.cell?_of_block (a := ⟨nb, 0, none⟩) (hg.block nb hnbl (by simp [hnb]))).trans hp, x0, x1, h1.blk (fun b hb => hg.block b hb.1 (by simp [hb.2]))⟩
  have HS : Hid ((∀ i, i < n → 0 ≤ ts.getD i 0 ∧ ts.getD i 0 ≤ 1073741824) ∧ ∀ i, i < n → ∀ (h0 : 0 < ts.length), ts[0] ≤ ts.getD i 0) := by
    refine ⟨fun i hi => ?_, fun i hi h0 => ?_⟩
    · rw [List.getD_eq_getElem?_getD, List.getElem?_eq_getElem (by omega)]
      exact hs.1 _ (List.getElem_mem _)
    · rw [List.getD_eq_getElem?_getD, List.getElem?_eq_getElem (by omega), Option.getD_some]
      by_cases e : i = 0
      · subst e; exact Int.le_refl _
      · exact (List.pairwise_iff_getElem.1 hs.2) 0 i h0 (by omega) (by omega)
  obtain ⟨hev0, hev1⟩ := hev
  obtain ⟨hct0, hct1⟩ := hct
  obtain ⟨hnow0, hnow1⟩ := hnow
  have hK00 : 0 ≤ now / ev := Int.ediv_nonneg hnow0 (by omega)
  have hK0n : now / ev ≤ now := Int.ediv_le_self _ hnow0
  obtain ⟨a2, a0, a1, _⟩ := HC.out w (grown_reflR _ _)
  have hevz : ¬ ev = 0 := by omega
  have HTS := Lib.hid hts
  clear hp hr h1 hs hm
  go_enter Tryz.func68, Tryz.ntmps68
  go_wp2_with fail
  clear a2 a0 a1
  go_loopw [6] (fun kv wr => ∃ K : Int, kv = .int .i64 K ∧ -1 ≤ K ∧ K ≤ now / ev ∧ w.grownBy wr (some g) ∧ Hid (MarkAt wr g n (markF f (ev, ct) ts now K))) (fun kv _ => (intOf kv + 1).toNat)
  case atStart =>
    refine ⟨now / ev, rfl, by omega, Int.le_refl _, grown_reflR _ _, HM.out.congr fun i hi => ?_⟩
    exact (markF_start (r := (ev, ct)) hev0 i).symm
  case round =>
    obtain ⟨K, rfl, hK0', hK1, hG, hM⟩ := hrel
    obtain ⟨a2, a0, a1, _⟩ := HC.out wr hG
    by_cases hK0 : 0 ≤ K
    case neg =>
      have hd : decide (0 ≤ K) = false := decide_eq_false hK0
      go_upto_region 1 with (fail)
      go_quiet (fail)
      go_wp2
      go_end0
      refine ⟨rfl, grown_drewR hG _, MarkAt.congr (MarkAt.blk (w' := wr.drewN _) hM.out rfl) (fun i hi => markF_end (Or.inl ?_))⟩
      have := Int.ediv_nonneg (HS.out.1 i hi).1 (show 0 ≤ ev by omega)
      show K < ts.getD i 0 / ev
      omega
    have hd : decide (0 ≤ K) = true := decide_eq_true hK0
    by_cases hKc : now / ev - ct < K
    case neg =>
      have hd2 : decide (now / ev - ct < K) = false := decide_eq_false hKc
      go_upto_region 1 with (fail)
      go_quiet (fail)
      go_wp2
      go_end0
      refine ⟨rfl, grown_drewR hG _, MarkAt.congr (MarkAt.blk (w' := wr.drewN _) hM.out rfl) (fun i hi => markF_end (Or.inr ?_))⟩
      show K ≤ now / ev - ct
      omega
    have hd2 : decide (now / ev - ct < K) = true := decide_eq_true hKc
    have HKC : Hid (now / ev - ct < K) := Lib.hid hKc
    go_upto_region 1 with (fail)
    go_quiet (fail)
    generalize hW1 : wr.drewN _ = W1
    have hg1 : w.grownBy W1 (some g) := by rw [← hW1]; exact grown_drewR hG _
    have hM1 : Hid (MarkAt W1 g n (markF f (ev, ct) ts now K)) := by rw [← hW1]; exact hM.out.blk rfl
    clear hW1 hG hM a2 a0 a1
    obtain ⟨a2, a0, a1, a3⟩ := HC.out W1 hg1
    go_wp2_with fail
    go_loopw [7, 31] (fun la iv wr2 => ∃ j : Nat, j ≤ n ∧ iv = .int .i64 j ∧ la = .int .i64 (lastTo (inK ev now K) ts j) ∧ wr2 = W1) (fun _ iv _ => n - (intOf iv).toNat)
    case atStart => exact ⟨0, by omega, rfl, rfl, rfl⟩
    case round =>
      obtain ⟨j, hj, rfl, rfl, rfl⟩ := hrel
      by_cases hlt : j < n
      · obtain ⟨b, off, rfl, hb, g0, _⟩ := a3.out.int (k := j) (by omega)
        have hjn : (j : Int) < n := by omega
        have hj0 : (0 : Int) ≤ j := by omega
        have hts := HS.out.1 j hlt
        have hgd : ts.getD j 0 = ts[j]'(by omega) := by rw [List.getD_eq_getElem?_getD, List.getElem?_eq_getElem (by omega)]; rfl
        have HST := Lib.hid (lastTo_succ (inK ev now K) ts j)
        rw [hgd] at hts HST
        obtain ⟨t, ht⟩ : ∃ t, ts[j]'(by omega) = t := ⟨_, rfl⟩
        rw [ht] at g0 hts HST
        obtain ⟨ht0, ht1⟩ := hts
        clear ht hgd
        have hd0 : 0 ≤ t / ev := Int.ediv_nonneg ht0 (by omega)
        have hd1 : t / ev ≤ t := Int.ediv_le_self _ ht0
        obtain ⟨la, hla⟩ : ∃ la, lastTo (inK ev now K) ts j = la := ⟨_, rfl⟩
        have HIN : Hid (inK ev now K t = (decide (t / ev = K) && decide (t ≤ now))) := rfl
        rw [hla] at HST ⊢
        clear hla
        by_cases hdK : t / ev = K
        · have hdK' : (t / ev == K) = true := by simp [hdK]
          by_cases htn : t ≤ now
          · have HE : Hid (lastTo (inK ev now K) ts (j + 1) = j) := by rw [Hid, HST.out, HIN.out, decide_eq_true hdK, decide_eq_true htn]; rfl
            clear hdK
            go_wp2
            go_roundw
            case rel => exact ⟨j + 1, hlt, by go_num, by rw [HE.out], trivial⟩
            case measure => simp [intOf]; omega
          · have HE : Hid (lastTo (inK ev now K) ts (j + 1) = la) := by rw [Hid, HST.out, HIN.out, decide_eq_true hdK, decide_eq_false htn]; rfl
            clear hdK
            go_wp2
            go_roundw
            case rel => exact ⟨j + 1, hlt, by go_num, by rw [HE.out], trivial⟩
            case measure => simp [intOf]; omega
        · have hdK' : (t / ev == K) = false := by simp [hdK]
          have HE : Hid (lastTo (inK ev now K) ts (j + 1) = la) := by rw [Hid, HST.out, HIN.out, decide_eq_false hdK]; rfl
          clear hdK
          go_wp2
          go_roundw
          case rel => exact ⟨j + 1, hlt, by go_num, by rw [HE.out], trivial⟩
          case measure => simp [intOf]; omega
      · have hjj : n = j := by omega
        subst hjj
        rcases lastTo_cases (inK ev now K) ts n with ⟨hl1, _⟩ | ⟨q, hq1, hl1, _, _⟩
        · have HL := Lib.hid hl1
          rw [hl1]
          clear hl1
          go_upto_region 12 with (fail)
          obtain ⟨W2, hW2⟩ : ∃ W2 : World, W2 = wr := ⟨_, rfl⟩
          rw [← hW2]
          have hg2 : w.grownBy W2 (some g) := by rw [hW2]; exact hg1
          have hM2 : Hid (MarkAt W2 g n (markF f (ev, ct) ts now (K - 1))) := by rw [hW2]; exact (hM1.out.congr fun i hi => by rw [markF_step HKC.out (by have := HTS.out; omega), HTS.out, HL.out]; have e : ((i : Int) == -1) = false := (by simp <;> omega); rw [e, Bool.or_false])
          obtain ⟨a2, a0, a1, a3⟩ := HC.out W2 hg2
          clear hW2
          by_cases hn0 : n = 0
          · subst hn0
            have hn00 : decide (((0 : Nat) : Int) = 0) = true := by decide
            go_quiet (fail)
            go_wp2
            refine bodyPost_ret (results_none rfl _ _ _) rfl ?_
            exact ⟨rfl, grown_drewR hg2 _, MarkAt.congr (MarkAt.blk (w' := W2.drewN _) hM2.out rfl) (fun i hi => by omega)⟩
          · obtain ⟨b0, off0, he0, _, z0, _⟩ := (a3.out).int (k := 0) (by omega)
            subst he0
            obtain ⟨t0, ht0⟩ : ∃ t0, ts[0]'(by omega) = t0 := ⟨_, rfl⟩
            rw [ht0] at z0
            have z1 : W2.cell? ⟨b0, off0, none⟩ = some (.int .i64 t0) := z0
            have hn00 : ((n : Int) == 0) = false := by simp; omega
            have hn01 : (0 : Int) < n := by omega
            have HT0 := Lib.hid ht0
            clear ht0 z0
            obtain ⟨P, hP⟩ : ∃ P, K * ev = P := ⟨_, rfl⟩
            have hPb : 0 ≤ P ∧ P ≤ now := by
              refine ⟨by rw [← hP]; exact Int.mul_nonneg hK0 (by omega), ?_⟩
              rw [← hP]
              exact Int.mul_le_of_le_ediv (by omega) hK1
            obtain ⟨hPb0, hPb1⟩ := hPb
            by_cases htP : P ≤ t0
            · have htp : decide (P ≤ t0) = true := decide_eq_true htP
              go_quiet (fail)
              go_wp2
              refine bodyPost_ret (results_none rfl _ _ _) rfl ?_
              refine ⟨rfl, grown_drewR hg2 _, MarkAt.congr (MarkAt.blk (w' := W2.drewN _) hM2.out rfl) (fun i hi => markF_end (Or.inl ?_))⟩
              have h1 := HS.out.2 i hi (by omega)
              have h2 : K ≤ ts.getD i 0 / ev := (Int.le_ediv_iff_mul_le (by omega)).2 (by rw [hP]; have := HT0.out; omega)
              show K - 1 < ts.getD i 0 / ev
              omega
            · have htp : decide (P ≤ t0) = false := decide_eq_false htP
              go_quiet (fail)
              go_wp2
              go_roundw
              case rel => exact ⟨K - 1, rfl, by omega, by omega, grown_drewR hg2 _, hM2.out.blk rfl⟩
              case measure => simp [intOf]; omega
        · have HL := Lib.hid hl1
          rw [hl1]
          clear hl1
          have hq1i : (q : Int) < n := by omega
          have hq0 : (0 : Int) ≤ q := by omega
          obtain ⟨k0, k1⟩ := hM1.out.cell hq1
          go_upto_region 12 with (fail)
          obtain ⟨W2, hW2⟩ : ∃ W2 : World, W2 = wr.setCell ⟨g, q, none⟩ (.bool true) := ⟨_, rfl⟩
          rw [← hW2]
          have hg2 : w.grownBy W2 (some g) := by rw [hW2]; exact (grown_setR hg1 q _)
          have hM2 : Hid (MarkAt W2 g n (markF f (ev, ct) ts now (K - 1))) := by rw [hW2]; exact ((hM1.out.set q).congr fun i hi => by rw [markF_step HKC.out (by have := HTS.out; omega), HTS.out, HL.out]; congr 1; rw [Bool.eq_iff_iff]; simp; omega)
          obtain ⟨a2, a0, a1, a3⟩ := HC.out W2 hg2
          clear hW2
          by_cases hn0 : n = 0
          · subst hn0
            have hn00 : decide (((0 : Nat) : Int) = 0) = true := by decide
            go_quiet (fail)
            go_wp2
            refine bodyPost_ret (results_none rfl _ _ _) rfl ?_
            exact ⟨rfl, grown_drewR hg2 _, MarkAt.congr (MarkAt.blk (w' := W2.drewN _) hM2.out rfl) (fun i hi => by omega)⟩
          · obtain ⟨b0, off0, he0, _, z0, _⟩ := (a3.out).int (k := 0) (by omega)
            subst he0
            obtain ⟨t0, ht0⟩ : ∃ t0, ts[0]'(by omega) = t0 := ⟨_, rfl⟩
            rw [ht0] at z0
            have z1 : W2.cell? ⟨b0, off0, none⟩ = some (.int .i64 t0) := z0
            have hn00 : ((n : Int) == 0) = false := by simp; omega
            have hn01 : (0 : Int) < n := by omega
            have HT0 := Lib.hid ht0
            clear ht0 z0
            obtain ⟨P, hP⟩ : ∃ P, K * ev = P := ⟨_, rfl⟩
            have hPb : 0 ≤ P ∧ P ≤ now := by
              refine ⟨by rw [← hP]; exact Int.mul_nonneg hK0 (by omega), ?_⟩
              rw [← hP]
              exact Int.mul_le_of_le_ediv (by omega) hK1
            obtain ⟨hPb0, hPb1⟩ := hPb
            by_cases htP : P ≤ t0
            · have htp : decide (P ≤ t0) = true := decide_eq_true htP
              go_quiet (fail)
              go_wp2
              refine bodyPost_ret (results_none rfl _ _ _) rfl ?_
              refine ⟨rfl, grown_drewR hg2 _, MarkAt.congr (MarkAt.blk (w' := W2.drewN _) hM2.out rfl) (fun i hi => markF_end (Or.inl ?_))⟩
              have h1 := HS.out.2 i hi (by omega)
              have h2 : K ≤ ts.getD i 0 / ev := (Int.le_ediv_iff_mul_le (by omega)).2 (by rw [hP]; have := HT0.out; omega)
              show K - 1 < ts.getD i 0 / ev
              omega
            · have htp : decide (P ≤ t0) = false := decide_eq_false htP
              go_quiet (fail)
              go_wp2
              go_roundw
              case rel => exact ⟨K - 1, rfl, by omega, by omega, grown_drewR hg2 _, hM2.out.blk rfl⟩
              case measure => simp [intOf]; omega
end Go.Proofs.YtnkmklnlaepdeaaGreat

namespace Go.Proofs.YtnkmklnlaepdeaaGreat
open Go.RowKit Go.Shelf
attribute [local go_sem] Oper.semAt_some

/-- the closures that mark: that of the newest times, and one for each rule -/
def encKp (nw now : Int) : Enc (Option Rule) where
  size := 1
  rd w S cs x := match x with
    | none => ∃ pb : Nat, cs = [.func (.func 67) #[] #[.pointer (some ⟨pb, 0, none⟩)]] ∧ S pb ∧ w.cell? ⟨pb, 0, none⟩ = some (.int .i64 nw)
    | some r => ∃ nb rb : Nat, cs = [.func (.func 68) #[] #[.pointer (some ⟨nb, 0, none⟩), .pointer (some ⟨rb, 0, none⟩)]] ∧ (S nb ∧ S rb) ∧ w.cell? ⟨nb, 0, none⟩ = some (.int .i64 now) ∧ w.cell? ⟨rb, 0, none⟩ = some (.int .i64 r.1) ∧ w.cell? ⟨rb, 1, none⟩ = some (.int .i64 r.2)
  len {w S cs x} h := by
    cases x with
    | none => obtain ⟨pb, rfl, _⟩ := h; rfl
    | some r => obtain ⟨nb, rb, rfl, _⟩ := h; rfl
  one {w S cs x} h := by
    cases x with
    | none => obtain ⟨pb, rfl, _⟩ := h; simp [Value.oneCell']
    | some r => obtain ⟨nb, rb, rfl, _⟩ := h; simp [Value.oneCell']
  keep {w w' S S' cs x} h hk hS := by
    cases x with
    | none => obtain ⟨pb, rfl, h1, h2⟩ := h; exact ⟨pb, rfl, hS _ h1, (hk ⟨pb, 0, none⟩ h1).trans h2⟩
    | some r =>
      obtain ⟨nb, rb, rfl, ⟨h1, h2⟩, h3, h4, h5⟩ := h
      exact ⟨nb, rb, rfl, ⟨hS _ h1, hS _ h2⟩, (hk ⟨nb, 0, none⟩ h1).trans h3, (hk ⟨rb, 0, none⟩ h2).trans h4, (hk ⟨rb, 1, none⟩ h2).trans h5⟩
theorem tyKp : SliceTy Tryz.prog 83 81 1 8 := sliceTy_mk (z := .nilFunc) Tryz.underlying83 (by kernel_rfl) rfl (by decide)
theorem newest_any (nw : Int) (w : World) : Calls Tryz.prog 39 #[.int .i64 nw] w fun e w' => ∃ pb : Nat, e = .returned (.func (.func 67) #[] #[.pointer (some ⟨pb, 0, none⟩)]) ∧ w.heap.size ≤ pb ∧ pb < w'.heap.size ∧ w'.cell? ⟨pb, 0, none⟩ = some (.int .i64 nw) ∧ Below w.heap.size w w' := by
  have hmf : ∀ (fn : Fn) (first cap : Array Value) (w : World), (Instr.makeFunc fn first cap).run Tryz.prog w = .ok (.func fn first cap) w := fun _ _ _ _ => rfl
  go_enter Tryz.func39, Tryz.ntmps39
  go_wp2
  go_ret
  exact ⟨w.heap.size, rfl, Nat.le_refl _, by simp, by rw [cell_of_row _ _ _ _ _ _ (heap_alloc_new _ _)]; rfl, ext_alloc (Below.refl _ _)⟩
theorem intervals_any (ev ct now : Int) (w : World) : Calls Tryz.prog 40 #[.agg #[.int .i64 ev, .int .i64 ct], .int .i64 now] w fun e w' => ∃ nb rb : Nat, e = .returned (.func (.func 68) #[] #[.pointer (some ⟨nb, 0, none⟩), .pointer (some ⟨rb, 0, none⟩)]) ∧ (w.heap.size ≤ nb ∧ nb < w'.heap.size) ∧ (w.heap.size ≤ rb ∧ rb < w'.heap.size) ∧ w'.cell? ⟨nb, 0, none⟩ = some (.int .i64 now) ∧ (w'.cell? ⟨rb, 0, none⟩ = some (.int .i64 ev) ∧ w'.cell? ⟨rb, 1, none⟩ = some (.int .i64 ct)) ∧ Below w.heap.size w w' := by
  have hmf : ∀ (fn : Fn) (first cap : Array Value) (w : World), (Instr.makeFunc fn first cap).run Tryz.prog w = .ok (.func fn first cap) w := fun _ _ _ _ => rfl
  go_enter Tryz.func40, Tryz.ntmps40
  go_wp2
  go_ret
  refine ⟨w.heap.size + 1, w.heap.size, rfl, ⟨by omega, by simp⟩, ⟨Nat.le_refl _, by simp; omega⟩, ?_, ?_, ext_alloc (ext_alloc (Below.refl _ _))⟩
  · have h := heap_alloc_new (w.alloc (.cells #[.int .i64 ev, .int .i64 ct] 48)) (.cells #[.int .i64 now] 3)
    rw [World.size_alloc] at h
    rw [cell_of_row _ _ _ _ _ _ h]; rfl
  · obtain ⟨a, b, _⟩ := blk2 (show ((w.alloc (.cells #[.int .i64 ev, .int .i64 ct] 48)).alloc (.cells #[.int .i64 now] 3)).heap[w.heap.size]? = some _ from (Below.heap_alloc _ _ _ (by simp)).trans (heap_alloc_new _ _))
    exact ⟨a, b⟩
theorem SlAt.kp {nw now : Int} {w : World} {S : Nat → Prop} {A : Option Addr} {l : List (Option Rule)} {k : Nat} (h : SlAt (encKp nw now) w S A l) (hk : k < l.length) : ∃ b off v, A = some ⟨b, off, none⟩ ∧ S b ∧ w.cell? ⟨b, off + k, none⟩ = some v ∧ (encKp nw now).rd w S [v] l[k] := by
  obtain ⟨b, off, cs, e, hb, hs, hr⟩ := h.at_ hk
  have hl := (encKp nw now).len hr
  match cs, hl with
  | [v], _ => exact ⟨b, off, v, e, hb, by simpa [encKp] using hs 0 _ rfl, hr⟩
def markM (nw now : Int) (rules : List Rule) (ts : List Int) (i : Nat) (j : Nat) : Bool :=
  (decide (1 ≤ i) && decide ((ts.length : Int) - nw ≤ j)) || (rules.take (i - 1)).any fun r => ruledB r ts now j
theorem markM_zero (nw now : Int) (rules : List Rule) (ts : List Int) (j : Nat) : markM nw now rules ts 0 j = false := by simp [markM]
theorem markM_one (nw now : Int) (rules : List Rule) (ts : List Int) (j : Nat) : markM nw now rules ts 1 j = (markM nw now rules ts 0 j || decide ((ts.length : Int) - nw ≤ j)) := by simp [markM]
theorem markM_succ {nw now : Int} {rules : List Rule} {ts : List Int} {q : Nat} (hq : q < rules.length) (j : Nat) : markM nw now rules ts (q + 1 + 1) j = (markM nw now rules ts (q + 1) j || ruledB rules[q] ts now j) := by
  unfold markM
  rw [show q + 1 + 1 - 1 = q + 1 by omega, show q + 1 - 1 = q by omega, List.take_succ_eq_append_getElem hq, List.any_append, decide_eq_true (show 1 ≤ q + 1 + 1 by omega), decide_eq_true (show 1 ≤ q + 1 by omega)]
  simp [Bool.or_assoc]
theorem markM_end (nw now : Int) (rules : List Rule) (ts : List Int) (j : Nat) : markM nw now rules ts (rules.length + 1) j = keptB (nw, rules) ts now j := by
  unfold markM keptB
  rw [show rules.length + 1 - 1 = rules.length by omega, List.take_length, decide_eq_true (show 1 ≤ rules.length + 1 by omega)]
  simp
theorem made_marks (n : Nat) : madeCells #[Value.bool false] n = ((bl n fun _ => false).map Value.bool).toArray := by
  apply Array.toList_inj.1
  rw [toList_madeCells_one, bl_false]; simp
set_option maxHeartbeats 4000000 in
set_option maxRecDepth 100000 in
theorem marks_any (A At : Option Addr) (c ct n m : Nat) (nw now : Int) (l : List Rule) (ts : List Int) (w : World) (hm : l.length = m) (hn : ts.length = n) (h1 : SlAt encExt w (Bl w.heap.size) A l) (h2 : SlAt encInt w (Bl w.heap.size) At ts)
    (hp : polE (nw, l) = 0) (hts : (∀ t ∈ ts, 0 ≤ t ∧ t ≤ 1073741824) ∧ ts.Pairwise (· ≤ ·)) (hn1 : n ≤ 1024) (hnow : 0 ≤ now ∧ now ≤ 1073741824) :
    Calls Tryz.prog 20 #[.agg #[.int .i64 nw, .slice A m c], .slice At n ct, .int .i64 now] w fun e w' => ∃ g : Nat, e = .returned (.slice (some ⟨g, 0, none⟩) n n) ∧ w.heap.size ≤ g ∧ MarkAt w' g n (keptB (nw, l) ts now) ∧ Below w.heap.size w w' := by
  subst hm
  obtain ⟨n0, hn0⟩ : ∃ n0, w.heap.size = n0 := ⟨_, rfl⟩
  rw [hn0] at h1 h2 ⊢
  have H1 : Hid (∀ w', Below n0 w w' → SlAt encExt w' (Bl n0) A l) := fun w' hb => h1.below hb
  have H2 : Hid (∀ w', Below n0 w w' → SlAt encInt w' (Bl n0) At ts) := fun w' hb => h2.below hb
  have HP := Lib.hid (polE_ok hp)
  have hl8 : l.length ≤ 8 := HP.out.2.2.1
  have HTS := Lib.hid hts
  have HN := Lib.hid hn
  have HNOW := Lib.hid hnow
  clear h1 h2 hp hts hnow hn
  obtain ⟨W0, hW0⟩ : ∃ W0, w.alloc (.cells #[.int .i64 nw, .slice A l.length c] 24) = W0 := ⟨_, rfl⟩
  have hB0 : Below n0 w W0 := by rw [← hW0, ← hn0]; exact ext_alloc (Below.refl _ _)
  have hr0 : W0.heap[n0]? = some (.cells #[.int .i64 nw, .slice A l.length c] 24 (0, 0)) := by rw [← hW0, ← hn0]; exact heap_alloc_new _ _
  obtain ⟨kb, hkb⟩ : ∃ kb, W0.heap.size = kb := ⟨_, rfl⟩
  have hn0k : n0 < kb := by rw [← hkb]; exact (Array.getElem?_eq_some_iff.1 hr0).1
  obtain ⟨W1, hW1⟩ : ∃ W1, W0.alloc (.cells (madeCells #[.bool false] n) 4) = W1 := ⟨_, rfl⟩
  have hmk : (Instr.makeSlice 62 (.int .i64 n) (.int .i64 n)).run Tryz.prog W0 = .ok (.slice (some ⟨kb, 0, none⟩) n n) W1 := by
    rw [← hW1, ← hkb]
    exact run_make_row' _ _ (.bool false) 1 Tryz.underlying62 (by kernel_rfl) rfl .i64 .i64 n (by omega) (by omega) W0
  obtain ⟨n1, hn1'⟩ : ∃ n1, W1.heap.size = n1 := ⟨_, rfl⟩
  have hkn1 : kb < n1 := by rw [← hn1', ← hW1, ← hkb]; simp
  have hB01 : Below kb W0 W1 := by rw [← hW1, ← hkb]; exact ext_alloc (Below.refl _ _)
  have hB1 : Below n0 w W1 := hB0.trans (hB01.mono (by omega))
  have HM1 : Hid (MarkAt W1 kb n fun _ => false) := by
    unfold Hid MarkAt
    rw [← made_marks, ← hW1, ← hkb]; exact heap_alloc_new _ _
  have hr1 := (hB01.block n0 hn0k).trans hr0
  have HRW : Hid (∀ W, Below n1 W1 W → W.cell? ⟨n0, 0, none⟩ = some (.int .i64 nw) ∧ W.cell? ⟨n0, 1, none⟩ = some (.slice A l.length c)) := fun W hb => by
    obtain ⟨a, b, _⟩ := blk2 ((hb.block n0 (by omega)).trans hr1)
    exact ⟨a, b⟩
  have HBW : Hid (∀ W, Below n1 W1 W → Below n0 w W) := fun W hb => hB1.trans (hb.mono (by omega))
  clear hr0 hr1 hB0 hB01
  obtain ⟨r0, r1⟩ := HRW.out W1 (Below.refl _ _)
  go_enter Tryz.func20, Tryz.ntmps20
  go_wp2_with fail
  refine (newest_any nw W1).mono ?_
  rintro e w2 ⟨pb, rfl, p1, p2, p3, hb2⟩
  rw [hn1'] at hb2 p1
  clear hmk hW0 hW1 r0 r1
  obtain ⟨r0, r1⟩ := HRW.out w2 hb2
  go_upto_region 3 with (fail)
  obtain ⟨kv, hkv⟩ : ∃ kv : Value, kv = .func (.func 67) #[] #[.pointer (some ⟨pb, 0, none⟩)] := ⟨_, rfl⟩
  rw [← hkv]
  obtain ⟨lb, hlb⟩ : ∃ lb, w2.heap.size = lb := ⟨_, rfl⟩
  obtain ⟨w3, hw3⟩ : ∃ w3, w2.alloc (.cells #[kv] 81) = w3 := ⟨_, rfl⟩
  have hb3 : Below n1 W1 w3 := by rw [← hw3]; exact hb2.alloc (by omega) _
  have hO3 : Hid (OwnX (fun _ => False) (encKp nw now) w3 n1 81 (.slice (some ⟨lb, 0, none⟩) 1 1) [none]) := by
    rw [← hw3, ← hlb]
    refine ⟨⟨[[kv]], World.ownsRow_lit w2 #[kv] 1 (by omega) (by unfold maxLen; omega) rfl, ⟨⟨pb, by rw [hkv], ⟨⟨p1, by simp; omega⟩, fun h => h, fun h => ?_⟩, ?_⟩, trivial⟩, fun g hg hS => hS.2.2 hg⟩, fun _ _ h => h⟩
    · have : w2.heap.size = pb := by simpa [Value.ownBlock] using h
      omega
    · exact (World.cell?_of_block (a := ⟨pb, 0, none⟩) (Below.heap_alloc _ _ _ p2)).trans p3
  rw [hw3, hlb]
  clear hw3 hkv p3 r0 r1 hb2 hlb
  obtain ⟨r0, r1⟩ := HRW.out w3 hb3
  go_wp2_with fail
  clear r0 r1
  go_loopw [8, 23] (fun kv iv wr => ∃ (k : Nat) (B : Option Addr) (bc : Nat) (out : List (Option Rule)), k ≤ l.length ∧ iv = .int .i64 k ∧ kv = .slice B out.length bc ∧ Below n1 W1 wr ∧ Hid (out = none :: (l.take k).map some) ∧ Hid (OwnX (fun _ => False) (encKp nw now) wr n1 81 (.slice B out.length bc) out)) (fun _ iv _ => l.length - (intOf iv).toNat)
  case atStart => exact ⟨0, some ⟨lb, 0, none⟩, 1, [none], by omega, rfl, rfl, hb3, by simp [Hid], hO3.out⟩
  case round =>
    obtain ⟨k, B, bc, out, hk, rfl, rfl, hB, hout, hown⟩ := hrel
    by_cases hlt : k < l.length
    · obtain ⟨b, off, rfl, hb, g0, g1, hi1, hi2⟩ := (H1.out wr (HBW.out wr hB)).ext hlt
      obtain ⟨x, hx⟩ : ∃ x, Hid (l[k] = x) := ⟨_, Lib.hid rfl⟩
      rw [hx.out] at g0 g1 hi1 hi2
      obtain ⟨ev, ct2⟩ := x
      simp only at g0 g1 hi1 hi2
      have hki : (k : Int) < l.length := by omega
      have hnn : (0 : Int) ≤ k := by omega
      have hol : out.length ≤ 100 := by rw [hout.out]; have := HP.out.2.2.1; simp; omega
      have hszr := hB.size
      obtain ⟨W4, hW4⟩ : ∃ W4, wr.alloc (.cells #[.int .i64 ev, .int .i64 ct2] 48) = W4 := ⟨_, rfl⟩
      have hb4 : Below wr.heap.size wr W4 := by rw [← hW4]; exact ext_alloc (Below.refl _ _)
      have hr4 : W4.heap[wr.heap.size]? = some (.cells #[.int .i64 ev, .int .i64 ct2] 48 (0, 0)) := by rw [← hW4]; exact heap_alloc_new _ _
      have hs4 : wr.heap.size < W4.heap.size := (Array.getElem?_eq_some_iff.1 hr4).1
      have HW4 := Lib.hid hW4
      clear hW4
      go_upto_region 6 with (fail)
      rw [HW4.out]
      obtain ⟨x0, x1, _⟩ := blk2 hr4
      clear g0 g1 HW4
      go_wp2_with fail
      refine (intervals_any ev ct2 now W4).mono ?_
      rintro e w5 ⟨nb, rb, rfl, ⟨a1, a2⟩, ⟨a3, a4⟩, q3, ⟨q4, q5⟩, hb5⟩
      have hlt5 := hown.out.lt
      have hbw5 : Below wr.heap.size wr w5 := ext_trans hb4 hb5
      have hB5 : Below n1 W1 w5 := hB.trans (hbw5.mono (by omega))
      have hO5 := Lib.hid ((hown.out.below hbw5).alloc (.cells #[.func (.func 68) #[] #[.pointer (some ⟨nb, 0, none⟩), .pointer (some ⟨rb, 0, none⟩)]] 81))
      have hO5o := Lib.hid hO5.out.1
      have HRD : Hid ((encKp nw now).rd (w5.alloc (.cells #[.func (.func 68) #[] #[.pointer (some ⟨nb, 0, none⟩), .pointer (some ⟨rb, 0, none⟩)]] 81)) (fun g => Nw n1 (w5.alloc (.cells #[.func (.func 68) #[] #[.pointer (some ⟨nb, 0, none⟩), .pointer (some ⟨rb, 0, none⟩)]] 81)).heap.size g ∧ ¬ (fun _ => False) g ∧ (Value.slice B out.length bc).ownBlock ≠ some g) [.func (.func 68) #[] #[.pointer (some ⟨nb, 0, none⟩), .pointer (some ⟨rb, 0, none⟩)]] (some (ev, ct2))) := by
        have hz5 := hbw5.size
        have hP : ∀ q, W4.heap.size ≤ q → q < w5.heap.size → (Nw n1 (w5.alloc (.cells #[.func (.func 68) #[] #[.pointer (some ⟨nb, 0, none⟩), .pointer (some ⟨rb, 0, none⟩)]] 81)).heap.size q ∧ ¬ (fun _ => False) q ∧ (Value.slice B out.length bc).ownBlock ≠ some q) := fun q h1 h2 => ⟨⟨by omega, by simp; omega⟩, fun h => h, fun h => by have := (hlt5 q h).2; omega⟩
        exact ⟨nb, rb, rfl, ⟨hP nb a1 a2, hP rb a3 a4⟩, (World.cell?_of_block (a := ⟨nb, 0, none⟩) (Below.heap_alloc _ _ _ a2)).trans q3, (World.cell?_of_block (a := ⟨rb, 0, none⟩) (Below.heap_alloc _ _ _ a4)).trans q4, (World.cell?_of_block (a := ⟨rb, 1, none⟩) (Below.heap_alloc _ _ _ a4)).trans q5⟩
      clear x0 x1 q3 q4 q5 hr4
      go_wp2_with (at_builtin; refine Hid.out ?_)
      change wpList _ _ _ _ _ _
      refine wpList_app1 (E := encKp nw now) tyKp rfl _ _ rfl rfl hO5o.out (some (ev, ct2)) [.func (.func 68) #[] #[.pointer (some ⟨nb, 0, none⟩), .pointer (some ⟨rb, 0, none⟩)]] rfl HRD.out (heap_alloc_new _ _) (fun _ h => h.1.2) (by have := hbw5.size; simp; omega) (by unfold maxLen; omega) (by omega) ?_
      intro A7 c7 w7 hown7 hg7 hat7
      have hO7 := Lib.hid (hO5.out.app hown7 hg7 hat7 (fun g h => h.elim))
      have hB7 : Hid (Below n1 W1 w7) := (hB5.alloc (by have := hbw5.size; omega) (.cells #[.func (.func 68) #[] #[.pointer (some ⟨nb, 0, none⟩), .pointer (some ⟨rb, 0, none⟩)]] 81)).grown hg7 (by have := hbw5.size; simp; omega) (fun g h => (hlt5 g h).1)
      have hnext : Hid (out ++ [some (ev, ct2)] = none :: (l.take (k + 1)).map some) := by
        rw [Hid, List.take_succ_eq_append_getElem hlt, hx.out, hout.out]; simp
      clear hown7 hg7 hat7 hlt5
      go_wp2
      go_roundw
      case rel =>
        refine ⟨k + 1, A7, c7, out ++ [some (ev, ct2)], hlt, by go_num, by simp, hB7.out, hnext.out, ?_⟩
        have := hO7.out; simpa [Hid] using this
      case measure => simp [intOf]; omega
    · have hkk : l.length = k := by omega
      have hoe : Hid (out = none :: l.map some) := by
        rw [Hid, hout.out, ← hkk, List.take_length]
      have hol : Hid (out.length = l.length + 1) := by rw [Hid, hoe.out]; simp
      have hol2 : out.length ≤ 100 := by rw [hol.out]; have := HP.out.2.2.1; omega
      have HKK := Lib.hid hkk
      obtain ⟨_, _, _, hread⟩ := hown.out.parts
      have HR := Lib.hid hread
      have hB1' : Below n0 w wr := HBW.out wr hB
      have HM : Hid (MarkAt wr kb n (markM nw now l ts 0)) := (MarkAt.blk HM1.out (hB.block kb hkn1)).congr (fun i _ => (markM_zero nw now l ts i).symm)
      have hszr := hB.size
      clear hread hkk
      go_wp2_with fail
      obtain ⟨V0, hV0⟩ : ∃ V0 : World, V0 = wr := ⟨_, rfl⟩
      rw [← hV0] at hB hB1' HR HM hszr ⊢
      go_loopw [36] (fun iv wr2 => ∃ i : Nat, i ≤ out.length ∧ iv = .int .i64 i ∧ V0.grownBy wr2 (some kb) ∧ Hid (MarkAt wr2 kb n (markM nw now l ts i))) (fun iv _ => out.length - (intOf iv).toNat)
      case atStart => exact ⟨0, by omega, rfl, grown_reflR _ _, HM.out⟩
      case round =>
        obtain ⟨wz, rfl⟩ : ∃ wz : World, wz = wr := ⟨_, rfl⟩
        obtain ⟨i, hi, rfl, hG, hM⟩ := hrel
        by_cases hil : i < out.length
        · have hrd : SlAt (encKp nw now) wz (fun g => Nw n1 V0.heap.size g ∧ ¬ (fun _ => False) g) B out := HR.out.blk (fun g hg => hG.block g hg.1.2 (by have := hg.1.1; simp; omega))
          obtain ⟨b, off, v, rfl, hbS, g0, hrv⟩ := hrd.kp hil
          have hii : (i : Int) < out.length := by omega
          have hi0 : (0 : Int) ≤ i := by omega
          have hzz := hG.size
          clear hrd
          cases i with
          | zero =>
            have he : out[0] = none := by simp [hoe.out]
            rw [he] at hrv
            obtain ⟨pb2, hv, hp1, hp2⟩ := hrv
            simp only [List.cons.injEq, and_true] at hv
            subst hv
            have HC := Lib.hid (newest1_any At ct n n kb pb2 nw (markM nw now l ts 0) wz hp2 ⟨HP.out.1, HP.out.2.1⟩ (by omega) hM.out)
            have g0' : wz.cell? ⟨b, off, none⟩ = some (.func (.func 67) #[] #[.pointer (some ⟨pb2, 0, none⟩)]) := g0
            clear he hp1 hp2 g0
            go_wp2_with fail
            refine HC.out.mono ?_
            rintro e w8 ⟨rfl, hg8, hm8⟩
            have HM8 : Hid (MarkAt w8 kb n (markM nw now l ts 1)) := hm8.congr (fun j _ => by rw [markM_one, HN.out])
            clear hm8 HC g0'
            go_wp2_with fail
            go_roundw
            case rel => exact ⟨1, by omega, by go_num, grown_transR hG hg8, HM8.out⟩
            case measure => simp [intOf]; omega
          | succ q =>
            have hq : q < l.length := by have := hol.out; omega
            have he : out[q + 1] = some l[q] := by simp [hoe.out]
            rw [he] at hrv
            obtain ⟨nb, rb, hv, ⟨hp1, hp2⟩, hp3, hp4, hp5⟩ := hrv
            simp only [List.cons.injEq, and_true] at hv
            subst hv
            have hmem := HP.out.2.2.2.1 l[q] (List.getElem_mem hq)
            have hts : SlAt encInt wz (fun b => b < wz.heap.size ∧ b ≠ kb) At ts := by
              refine (((H2.out V0 hB1').blk (w' := wz) (fun g hg => ?_)).more (fun g hg => ?_))
              · have : g < n0 := hg
                exact hG.block g (by omega) (by simp; omega)
              · have : g < n0 := hg
                exact ⟨by omega, by omega⟩
            obtain ⟨f', hf'⟩ : ∃ f', f' = markM nw now l ts (q + 1) := ⟨_, rfl⟩
            have HC := Lib.hid (intervals1_any At ct n n kb nb rb l[q].1 l[q].2 now ts (markM nw now l ts (q + 1)) wz hp3 (by have := hp1.1.1; omega) (by have := hp2.1.1; omega) ⟨hp4, hp5⟩ HN.out hts (by omega) ⟨hmem.1, hmem.2.1⟩ ⟨hmem.2.2.1, hmem.2.2.2⟩ HNOW.out HTS.out hM.out)
            clear he hp1 hp2 hp3 hp4 hp5 hts hmem
            go_wp2_with fail
            refine HC.out.mono ?_
            rintro e w8 ⟨rfl, hg8, hm8⟩
            have HM8 : Hid (MarkAt w8 kb n (markM nw now l ts (q + 1 + 1))) := hm8.congr (fun j _ => by rw [markM_succ hq])
            clear hm8 HC g0
            go_wp2_with fail
            go_roundw
            case rel => exact ⟨q + 1 + 1, by omega, by go_num, grown_transR hG hg8, HM8.out⟩
            case measure => simp [intOf]; omega
        · have hio : out.length = i := by omega
          have HF : Hid (MarkAt wz kb n (keptB (nw, l) ts now)) := by
            have h := hM.out
            rw [← hio, hol.out] at h
            exact h.congr (fun j _ => markM_end nw now l ts j)
          have hfin : Hid (Below n0 w wz) := hB1'.grown hG (by omega) (fun g hg => by injection hg with hg; omega)
          clear hio
          go_wp2
          go_ret
          exact ⟨kb, rfl, by omega, HF.out, hfin.out⟩
end Go.Proofs.YtnkmklnlaepdeaaGreat
