/-
  retention.ordered, Keep: the walks.
-/
import Derived.Test.YtnkmklnlaepdeaaGreatY1
set_option linter.unusedVariables false
set_option linter.unusedSimpArgs false
set_option linter.unusedSectionVars false
set_option linter.unnecessarySimpa false
namespace Go.Proofs.YtnkmklnlaepdeaaGreat
open Go.RowKit Go.Shelf
attribute [local go_sem] Oper.semAt_some

def Adj (ts : List Int) : Prop := ∀ j, j + 1 < ts.length → ts.getD j 0 ≤ ts.getD (j + 1) 0
theorem ascT_adj {ts : List Int} : ascT 0 ts = true ↔ Adj ts ∧ ∀ t ∈ ts, okT t = true := by
  constructor
  · intro h
    obtain ⟨h1, h2⟩ := ascT_mem h
    refine ⟨fun j hj => ?_, fun t ht => by simp [okT]; exact (h1 t ht).2⟩
    have := (List.pairwise_iff_getElem.1 h2) j (j + 1) (by omega) hj (by omega)
    simpa [List.getD_eq_getElem?_getD, List.getElem?_eq_getElem hj, List.getElem?_eq_getElem (show j < ts.length by omega)] using this
  · rintro ⟨h1, h2⟩
    refine ascT_mk (fun t ht => ?_) (List.pairwise_iff_getElem.2 ?_)
    · have := h2 t ht
      simp only [okT, decide_eq_true_eq] at this
      omega
    · have key : ∀ d i, i + d < ts.length → ts.getD i 0 ≤ ts.getD (i + d) 0 := by
        intro d
        induction d with
        | zero => intro i _; exact Int.le_refl _
        | succ d ih =>
          intro i hi
          exact Int.le_trans (ih i (by omega)) (h1 (i + d) hi)
      intro i j hi hj hij
      have := key (j - i) i (by omega)
      rw [show i + (j - i) = j by omega] at this
      simpa [List.getD_eq_getElem?_getD, List.getElem?_eq_getElem hi, List.getElem?_eq_getElem hj] using this
theorem isNaNI_any (a : Int) (w : World) : Calls Tryz.prog 93 #[.int .i64 a] w fun e w' => e = .returned (.bool false) ∧ w' = w := by
  go_enter Tryz.func93, Tryz.ntmps93
  go_wp2
  go_ret
  exact ⟨ret_bool (by simp), rfl⟩
theorem lessI_any (a b : Int) (q : Bool) (hq : decide (a < b) = q) (w : World) : Calls Tryz.prog 81 #[.int .i64 a, .int .i64 b] w fun e w' => e = .returned (.bool q) ∧ Drew w w' := by
  go_enter Tryz.func81, Tryz.ntmps81
  go_wp2_with fail
  refine (isNaNI_any a w).mono ?_
  rintro e w1 ⟨rfl, rfl⟩
  go_wp2
  go_ret
  exact ⟨rfl, Drew.refl _⟩
set_option maxHeartbeats 1000000 in
theorem isSorted_any (A : Option Addr) (c n : Nat) (ts : List Int) (q : Bool) (w : World) (hn : ts.length = n) (h1 : SlAt encInt w (Bl w.heap.size) A ts) (hl : n ≤ 9223372036854775807) (hq : q = true ↔ Adj ts) :
    Calls Tryz.prog 60 #[.slice A n c] w fun e w' => e = .returned (.bool q) ∧ Drew w w' := by
  subst hn
  have HQ := Lib.hid hq; clear hq
  go_enter Tryz.func60, Tryz.ntmps60
  go_wp2_with fail
  go_loopw [3] (fun i wr => ∃ k : Int, -1 ≤ k ∧ k < ts.length ∧ i = .int .i64 k ∧ Drew w wr ∧ Hid (∀ j : Nat, k < j + 1 → j + 1 < ts.length → ts.getD j 0 ≤ ts.getD (j + 1) 0)) (fun i _ => (intOf i).toNat)
  case atStart => exact ⟨(ts.length : Int) - 1, by omega, by omega, rfl, Drew.refl _, fun j h1 h2 => by omega⟩
  case round =>
    obtain ⟨k, hk0, hk1, rfl, hd, hs⟩ := hrel
    replace h1 := h1.drew hd
    by_cases hk : 0 < k
    · obtain ⟨j, rfl⟩ : ∃ j : Nat, k = (j : Int) + 1 := ⟨(k - 1).toNat, by omega⟩
      have hj1 : j + 1 < ts.length := by omega
      obtain ⟨b, off, rfl, hb, g0, _⟩ := h1.int hj1
      obtain ⟨b', off', he, _, g1, _⟩ := h1.int (k := j) (by omega)
      simp only [Option.some.injEq, Addr.mk.injEq, and_true] at he
      obtain ⟨rfl, rfl⟩ := he
      have hjI : (j : Int) < ts.length := by omega
      have hj1I : (j : Int) + 1 < ts.length := by omega
      have hj0 : (0 : Int) ≤ j := by omega
      have hgd : ts.getD j 0 = ts[j]'(by omega) := by rw [List.getD_eq_getElem?_getD, List.getElem?_eq_getElem (by omega)]; rfl
      have hgd1 : ts.getD (j + 1) 0 = ts[j + 1]'hj1 := by rw [List.getD_eq_getElem?_getD, List.getElem?_eq_getElem hj1]; rfl
      obtain ⟨x, hx⟩ : ∃ x, ts[j]'(by omega) = x := ⟨_, rfl⟩
      obtain ⟨y, hy⟩ : ∃ y, ts[j + 1]'hj1 = y := ⟨_, rfl⟩
      rw [hx] at g1 hgd
      rw [hy] at g0 hgd1
      have HG := Lib.hid (And.intro hgd hgd1)
      clear hx hy hgd hgd1
      obtain ⟨q1, hq1⟩ : ∃ q1, Hid (decide (y < x) = q1) := ⟨_, rfl⟩
      have HC := Lib.hid (lessI_any y x q1 hq1.out)
      have HS := Lib.hid hs; clear hs
      go_upto_region 4 with (fail)
      go_quiet ((go_at_call 81; exact Calls.quiet_of (HC.out _)))
      cases q1 with
      | true =>
        have hE : Hid (false = q) := by
          have h := of_decide_eq_true hq1.out
          cases q with
          | false => rfl
          | true =>
            have := (HQ.out.1 rfl) j hj1
            rw [HG.out.1, HG.out.2] at this
            omega
        go_wp2
        go_ret
        exact ⟨ret_bool hE.out, hd.step _⟩
      | false =>
        have h := Lib.hid (of_decide_eq_false hq1.out)
        go_wp2
        go_roundw
        case rel =>
          refine ⟨j, by omega, by omega, by go_num, hd.step _, fun j' h1 h2 => ?_⟩
          by_cases e : j' = j
          · subst e; rw [HG.out.1, HG.out.2]; have := h.out; omega
          · exact HS.out j' (by omega) h2
        case measure => simp [intOf] <;> omega
    · have hE : Hid (true = q) := by
        have h : Adj ts := fun j hj => hs.out j (by omega) hj
        exact (HQ.out.2 h).symm
      go_wp2
      go_ret
      exact ⟨ret_bool hE.out, hd⟩
theorem badT_any (t : Int) (w : World) (q : Bool) (hq : (!okT t) = q) : Calls Tryz.prog 62 #[.int .i64 t] w fun e w' => e = .returned (.bool q) ∧ Below w.heap.size w w' := by
  have HC := Lib.hid (inR_any t 0 1073741824 w (okT t) rfl)
  go_enter Tryz.func62, Tryz.ntmps62
  go_wp2_with fail
  refine HC.out.mono ?_
  rintro e w1 ⟨rfl, rfl⟩
  go_wp2
  go_ret
  exact ⟨rfl, Below.refl _ _⟩
def badT (t : Int) : Bool := !okT t
set_option maxHeartbeats 1000000 in
theorem indexBadT_any (A : Option Addr) (c : Nat) (l : List _) (w : World) (h1 : SlAt encInt w (Bl w.heap.size) A l) (hl : l.length ≤ 9223372036854775807) (htt : True) :
    Calls Tryz.prog 82 #[.slice A l.length c, .func (.func 62) #[] #[]] w fun e w' => (∃ i : Int, e = .returned (.int .i64 i) ∧ (decide (0 ≤ i) = l.any badT)) ∧ Below w.heap.size w w' := by
  have H1 : Hid (∀ w', Below w.heap.size w w' → SlAt encInt w' (Bl w.heap.size) A l) := fun w' hb => h1.below hb
  clear h1
  go_enter Tryz.func82, Tryz.ntmps82
  go_wp2
  go_loopw [8] (fun i wr => ∃ k : Nat, k ≤ l.length ∧ i = .int .i64 k ∧ Below w.heap.size w wr ∧ Hid (∀ y ∈ l.take k, badT y = false)) (fun i _ => l.length - (intOf i).toNat)
  case atStart => exact ⟨0, by omega, rfl, Below.refl _ _, by simp [Hid]⟩
  case round =>
    obtain ⟨k, hk, rfl, hB, hz⟩ := hrel
    by_cases hlt : k < l.length
    · have hnn : (0 : Int) ≤ k := by omega
      have hki : (k : Int) < l.length := by omega
      have hszr := hB.size
      obtain ⟨b, off, rfl, hb, g0, hi1, hi2⟩ := (H1.out wr hB).int hlt
      obtain ⟨q, hq⟩ : ∃ q, Hid (badT l[k] = q) := ⟨badT l[k], Lib.hid rfl⟩
      go_wp2_with fail
      refine (badT_any l[k] wr q hq.out).mono ?_
      rintro e w1 ⟨rfl, hb1⟩; clear g0
      have hB1 : Below w.heap.size w w1 := ext_trans hB hb1
      cases q with
      | true =>
        go_wp2
        go_ret
        refine ⟨⟨k, rfl, ?_⟩, hB1⟩
        rw [decide_eq_true hnn, eq_comm, List.any_eq_true]
        exact ⟨l[k], List.getElem_mem hlt, hq.out⟩
      | false =>
        go_wp2
        go_roundw
        case rel =>
          refine ⟨k + 1, hlt, by go_num, hB1, ?_⟩
          intro y hy
          rw [List.take_succ_eq_append_getElem hlt] at hy
          rcases List.mem_append.1 hy with hy | hy
          · exact hz.out y hy
          · rw [List.mem_singleton.1 hy]; exact hq.out
        case measure => simp [intOf]; omega
    · have hkk : k = l.length := by omega
      subst hkk
      go_wp2
      go_ret
      refine ⟨⟨-1, rfl, ?_⟩, hB⟩
      have := hz.out
      rw [List.take_length] at this
      rw [eq_comm]
      show l.any badT = false
      rw [List.any_eq_false]
      intro y hy
      simp [this y hy]
theorem containsBadT_any (A : Option Addr) (c : Nat) (l : List _) (w : World) (h1 : SlAt encInt w (Bl w.heap.size) A l) (hl : l.length ≤ 9223372036854775807) (htt : True) (q : Bool) (hq : l.any badT = q) :
    Calls Tryz.prog 61 #[.slice A l.length c, .func (.func 62) #[] #[]] w fun e w' => e = .returned (.bool q) ∧ Below w.heap.size w w' := by
  have hc := Lib.hid (indexBadT_any A c l w h1 hl trivial)
  clear h1
  rw [hq] at hc
  clear hq
  go_enter Tryz.func61, Tryz.ntmps61
  go_wp2_with fail
  refine hc.out.mono ?_
  rintro e w1 ⟨⟨i, rfl, hi⟩, hb1⟩
  go_wp2
  go_ret
  exact ⟨rfl, hb1⟩
theorem ordered_any (A : Option Addr) (c n : Nat) (ts : List Int) (q : Bool) (w : World) (hn : ts.length = n) (h1 : SlAt encInt w (Bl w.heap.size) A ts) (hl : n ≤ 9223372036854775807) (hq : ascT 0 ts = q) :
    Calls Tryz.prog 36 #[.slice A n c] w fun e w' => e = .returned (.bool q) ∧ Below w.heap.size w w' := by
  subst hn
  have HQ := Lib.hid hq; clear hq
  obtain ⟨qs, hqs⟩ : ∃ qs : Bool, (qs = true ↔ Adj ts) := by
    by_cases h : Adj ts
    · exact ⟨true, by simp [h]⟩
    · exact ⟨false, by simp [h]⟩
  have HS := Lib.hid hqs
  have HC := Lib.hid (isSorted_any A c ts.length ts qs w rfl h1 hl hqs)
  obtain ⟨qb, hqb⟩ : ∃ qb, Hid (ts.any badT = qb) := ⟨_, Lib.hid rfl⟩
  have HK := Lib.hid (fun W (hb : Below w.heap.size w W) => containsBadT_any A c ts W (h1.fwd hb) hl trivial qb hqb.out)
  have hE : Hid ((qs && !qb) = q) := by
    rw [Hid, ← HQ.out, Bool.eq_iff_iff, ascT_adj, Bool.and_eq_true, HS.out, ← hqb.out, Bool.not_eq_true', List.any_eq_false]
    unfold badT
    simp
  clear h1 hqs
  go_enter Tryz.func36, Tryz.ntmps36
  go_wp2_with fail
  refine HC.out.mono ?_
  rintro e w1 ⟨rfl, hd1⟩
  have hb1 : Below w.heap.size w w1 := hd1.below _
  cases qs with
  | false =>
    go_wp2
    go_ret
    exact ⟨ret_bool (by have := hE.out; simpa using this), hb1⟩
  | true =>
    go_wp2_with fail
    refine (HK.out w1 hb1).mono ?_
    rintro e w2 ⟨rfl, hb2⟩
    go_wp2
    go_ret
    exact ⟨ret_bool (by have := hE.out; simpa using this), ext_trans hb1 hb2⟩
theorem tyInts38 : SliceTy Tryz.prog 30 3 1 8 := sliceTy_mk (z := .int .i64 0) Tryz.underlying30 (by kernel_rfl) rfl (by decide)
def intsN (l : List Nat) : List Int := l.map fun i : Nat => (i : Int)
theorem keepN_step {p : Pol} {ts : List Int} {now : Int} (k : Nat) : (List.range (k + 1)).filter (keptB p ts now) = (List.range k).filter (keptB p ts now) ++ if keptB p ts now k then [k] else [] := by
  rw [List.range_succ, List.filter_append, List.filter_cons]; rfl
set_option maxHeartbeats 4000000 in
set_option maxRecDepth 100000 in
theorem keep_any (A At : Option Addr) (c ct n m : Nat) (nw now : Int) (l : List Rule) (ts : List Int) (r : List Nat) (w : World) (hm : l.length = m) (hn : ts.length = n) (hr : keepL (nw, l) ts now = r) (h1 : SlAt encExt w (Bl w.heap.size) A l) (h2 : SlAt encInt w (Bl w.heap.size) At ts) (hm1 : m ≤ 9223372036854775807) (hn1 : n ≤ 9223372036854775807) :
    Calls Tryz.prog 15 #[.agg #[.int .i64 nw, .slice A m c], .slice At n ct, .int .i64 now] w (RetSl encInt (intsN r) w) := by
  subst hm hn
  have HR := Lib.hid hr; clear hr
  obtain ⟨n0, hn0⟩ : ∃ n0, w.heap.size = n0 := ⟨_, rfl⟩
  have H1 : Hid (∀ w', Below w.heap.size w w' → SlAt encExt w' (Bl w'.heap.size) A l) := fun w' hb => h1.fwd hb
  have H2 : Hid (∀ w', Below w.heap.size w w' → SlAt encInt w' (Bl w'.heap.size) At ts) := fun w' hb => h2.fwd hb
  clear h1 h2
  obtain ⟨W0, hW0⟩ : ∃ W0, w.alloc (.cells #[.int .i64 nw, .slice A l.length c] 24) = W0 := ⟨_, rfl⟩
  have hB0 : Below w.heap.size w W0 := by rw [← hW0]; exact ext_alloc (Below.refl _ _)
  have hr0 : W0.heap[n0]? = some (.cells #[.int .i64 nw, .slice A l.length c] 24 (0, 0)) := by rw [← hW0, ← hn0]; exact heap_alloc_new _ _
  have HRW : Hid (∀ W, Below W0.heap.size W0 W → W.cell? ⟨n0, 0, none⟩ = some (.int .i64 nw) ∧ W.cell? ⟨n0, 1, none⟩ = some (.slice A l.length c)) := fun W hb => by
    obtain ⟨a, b, _⟩ := blk2 ((hb.block n0 (Array.getElem?_eq_some_iff.1 hr0).1).trans hr0)
    exact ⟨a, b⟩
  obtain ⟨pe, hpe⟩ : ∃ q, Hid (polE (nw, l) = q) := ⟨_, Lib.hid rfl⟩
  have HC := Lib.hid (polCheck_any A c l.length nw l pe W0 rfl hpe.out (H1.out W0 hB0) hm1)
  obtain ⟨r0, r1⟩ := HRW.out W0 (Below.refl _ _)
  clear hr0
  go_enter Tryz.func15, Tryz.ntmps15
  go_wp2_with fail
  refine HC.out.mono ?_
  rintro e w1 ⟨rfl, hb1⟩
  have hbw1 : Below w.heap.size w w1 := ext_trans hB0 hb1
  clear HC hW0 r0 r1
  have HNIL : Hid (¬ (polE (nw, l) = 0 ∧ timesB ts = true ∧ okT now = true) → ∀ W, Below w.heap.size w W → RetSl encInt (intsN r) w (.returned (.slice none 0 0)) W) := fun hne W hb => by
    have : r = [] := by rw [← HR.out, keepL, if_neg hne]
    subst this
    exact ⟨none, 0, rfl, by simp [intsN], by simp, SlAt.nil_, hb⟩
  by_cases hx0 : pe = 0
  case neg =>
    have hx0' : (pe != 0) = true := by simp [hx0]
    have HF := Lib.hid (HNIL.out (fun h => hx0 (hpe.out.symm.trans h.1)) w1 hbw1)
    clear hx0
    go_wp2_with fail
    go_ret
    exact HF.out
  have hx0' : (pe != 0) = false := by simp [hx0]
  have HPE : Hid (polE (nw, l) = 0) := hpe.out.trans hx0
  clear hx0 hpe
  by_cases hlen : ts.length ≤ 1024
  case neg =>
    have hlen' : (1024 : Int) < ts.length := by omega
    have HF := Lib.hid (HNIL.out (fun h => hlen (timesB_ok h.2.1).2.2) w1 hbw1)
    clear hlen
    go_wp2_with fail
    go_ret
    exact HF.out
  have hlen' : ¬ (1024 : Int) < ts.length := by omega
  obtain ⟨qn, hqn⟩ : ∃ q, Hid (okT now = q) := ⟨_, Lib.hid rfl⟩
  have HI := Lib.hid (inR_any now 0 1073741824 w1 qn hqn.out)
  go_wp2_with fail
  refine HI.out.mono ?_
  rintro e w2 ⟨rfl, rfl⟩
  clear HI
  cases qn with
  | false =>
    have HF := Lib.hid (HNIL.out (fun h => by have := hqn.out; rw [h.2.2] at this; cases this) w2 hbw1)
    go_wp2_with fail
    go_ret
    exact HF.out
  | true =>
  obtain ⟨qt, hqt⟩ : ∃ q, Hid (ascT 0 ts = q) := ⟨_, Lib.hid rfl⟩
  have HO := Lib.hid (ordered_any At ct ts.length ts qt w2 rfl (H2.out w2 hbw1) hn1 hqt.out)
  go_wp2_with fail
  refine HO.out.mono ?_
  rintro e w3 ⟨rfl, hb3⟩
  have hbw3 := ext_trans hbw1 hb3
  clear HO
  have htt : Hid (timesB ts = qt) := by rw [Hid, timesB, hqt.out, decide_eq_true hlen, Bool.and_true]
  cases qt with
  | false =>
    have HF := Lib.hid (HNIL.out (fun h => by have := htt.out; rw [h.2.1] at this; cases this) w3 hbw3)
    go_wp2_with fail
    go_ret
    exact HF.out
  | true =>
  have HE : Hid (keepN (nw, l) ts now = r) := by rw [Hid, ← HR.out, keepL, if_pos ⟨HPE.out, htt.out, hqn.out⟩]
  have HNW : Hid (0 ≤ now ∧ now ≤ 1073741824) := by
    have := hqn.out
    rw [Hid]; simpa [okT] using this
  have HT := Lib.hid (timesB_ok htt.out)
  have HMK := Lib.hid (marks_any A At c ct ts.length l.length nw now l ts w3 rfl rfl (H1.out w3 hbw3) (H2.out w3 hbw3) HPE.out ⟨HT.out.1, HT.out.2.1⟩ hlen HNW.out)
  obtain ⟨r0, r1⟩ := HRW.out w3 (ext_trans hb1 hb3)
  clear HNIL HR
  go_wp2_with fail
  refine HMK.out.mono ?_
  rintro e w4 ⟨g, rfl, hg, hm4, hb4⟩
  have hbw4 := ext_trans hbw3 hb4
  have HM4 := Lib.hid hm4
  obtain ⟨n4, hn4⟩ : ∃ n4, w4.heap.size = n4 := ⟨_, rfl⟩
  have hgl : g < n4 := by rw [← hn4]; exact hm4.lt
  clear hm4 r0 r1 HMK
  go_wp2_with fail
  go_loopw [7, 33] (fun v i wr => ∃ (k : Nat) (B : Option Addr) (vc : Nat) (out : List Int), k ≤ ts.length ∧ i = .int .i64 k ∧ v = .slice B out.length vc ∧ Below n4 w4 wr ∧ Hid (out = intsN ((List.range k).filter (keptB (nw, l) ts now))) ∧ Hid (OwnX (fun _ => False) encInt wr n4 3 (.slice B out.length vc) out)) (fun _ i _ => ts.length - (intOf i).toNat)
  case atStart => exact ⟨0, none, 0, [], by omega, rfl, rfl, by rw [← hn4]; exact Below.refl _ _, by simp [Hid, intsN], OwnX.nil_⟩
  case round =>
    obtain ⟨k, B, vc, out, hk, rfl, rfl, hB, hout, hown⟩ := hrel
    by_cases hlt : k < ts.length
    · have hki : (k : Int) < ts.length := by omega
      have hnn : (0 : Int) ≤ k := by omega
      have hol : out.length ≤ k := by
        have h := List.length_filter_le (keptB (nw, l) ts now) (List.range k)
        rw [hout.out, intsN, List.length_map]
        rw [List.length_range] at h
        exact h
      have hszr := hB.size
      obtain ⟨c0, _⟩ := (MarkAt.blk HM4.out (hB.block g hgl)).cell hlt
      have hst := Lib.hid (keepN_step (p := (nw, l)) (ts := ts) (now := now) k)
      obtain ⟨q, hq⟩ : ∃ q, keptB (nw, l) ts now k = q := ⟨_, rfl⟩
      rw [hq] at c0 hst
      clear hq
      cases q with
      | false =>
        go_wp2_with fail
        go_roundw
        case rel => exact ⟨k + 1, B, vc, out, hlt, by go_num, rfl, hB, by rw [Hid, hst.out, hout.out]; simp, hown.out⟩
        case measure => simp [intOf]; omega
      | true =>
        have hlt5 := hown.out.lt
        have hO5 := Lib.hid (hown.out.alloc (.cells #[.int .i64 k] 3))
        have hO5o := Lib.hid hO5.out.1
        have HRD : Hid (encInt.rd (wr.alloc (.cells #[.int .i64 k] 3)) (fun g => Nw n4 (wr.alloc (.cells #[.int .i64 k] 3)).heap.size g ∧ ¬ (fun _ => False) g ∧ (Value.slice B out.length vc).ownBlock ≠ some g) [.int .i64 k] (k : Int)) := ⟨rfl, by unfold I64; omega⟩
        go_wp2_with (at_builtin; refine Hid.out ?_)
        change wpList _ _ _ _ _ _
        refine wpList_app1 (E := encInt) tyInts38 rfl _ _ rfl rfl hO5o.out (k : Int) [.int .i64 k] rfl HRD.out (heap_alloc_new _ _) (fun _ h => h.1.2) (by simp; omega) (by unfold maxLen; omega) (by omega) ?_
        intro A7 c7 w7 hown7 hg7 hat7
        have hO7 := Lib.hid (hO5.out.app hown7 hg7 hat7 (fun g h => h.elim))
        have hB7 : Hid (Below n4 w4 w7) := (hB.alloc (by omega) (.cells #[.int .i64 k] 3)).grown hg7 (by simp; omega) (fun g h => (hlt5 g h).1)
        have hnext : Hid (out ++ [(k : Int)] = intsN ((List.range (k + 1)).filter (keptB (nw, l) ts now))) := by rw [Hid, hst.out, hout.out]; simp [intsN]
        clear hown7 hg7 hat7 hlt5
        go_wp2
        go_roundw
        case rel =>
          refine ⟨k + 1, A7, c7, out ++ [(k : Int)], hlt, by go_num, by simp, hB7.out, hnext.out, ?_⟩
          have := hO7.out; simpa [Hid] using this
        case measure => simp [intOf]; omega
    · have hkk : k = ts.length := by omega
      subst hkk
      have hE : Hid (out = intsN r) := by rw [Hid, hout.out, ← HE.out]; rfl
      obtain ⟨_, p1, p2, p3⟩ := hown.out.parts
      have HF : Hid (RetSl encInt (intsN r) w (.returned (.slice B out.length vc)) wr) := by
        rw [← hE.out]
        exact ⟨B, vc, rfl, p1, p2, p3.more (fun g hg => ⟨by have := hg.1.1; have := hbw4.size; omega, hg.1.2⟩), hbw4.trans (hB.mono (by have := hbw4.size; omega))⟩
      clear p3
      go_wp2_with fail
      go_ret
      exact HF.out
end Go.Proofs.YtnkmklnlaepdeaaGreat
