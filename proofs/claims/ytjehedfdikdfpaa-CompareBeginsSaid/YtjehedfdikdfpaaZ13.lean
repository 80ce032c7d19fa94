/-
  ref01.Check: the walk.; ref44.Nodes, ref44.extents: the walks.; ref44.Request: the walk.
-/
import Derived.BigQuiet
import Derived.RegionTactic
import Derived.BigRegion
import Derived.Deep.RegionLaw
import Derived.Deep.DeepCutAuto
import Derived.Test.YtjehedfdikdfpaaZ02
import Derived.Test.YtjehedfdikdfpaaZ03
import Derived.Test.YtjehedfdikdfpaaZ06
import Derived.Test.YtjehedfdikdfpaaZ07
import Derived.Test.YtjehedfdikdfpaaZ08
set_option linter.unusedVariables false
set_option linter.unusedSimpArgs false
set_option linter.unusedSectionVars false
set_option linter.unnecessarySimpa false
namespace Go.Proofs.Ytjehedfdikdfpaa
open Go.RowKit Go.Shelf
attribute [local go_sem] Oper.semAt_some

set_option maxHeartbeats 1000000 in
theorem within01_any (a b size : Int) (w : World) (hb : 0 < b) (hs : 0 ≤ size ∧ size ≤ 4096) :
    Calls Try.prog 72 #[.agg #[.int .i64 a, .int .i64 b], .int .i64 size] w fun e w' => e = .returned (.bool (decide (0 ≤ a ∧ b ≤ size - a))) ∧ Below w.heap.size w w' := by
  obtain ⟨W0, hW0⟩ : ∃ W0, w.alloc (.cells #[.int .i64 a, .int .i64 b] 67) = W0 := ⟨_, rfl⟩
  have hB0 : Below w.heap.size w W0 := by rw [← hW0]; exact ext_alloc (Below.refl _ _)
  have hr0 : W0.heap[w.heap.size]? = some (.cells #[.int .i64 a, .int .i64 b] 67 (0, 0)) := by rw [← hW0]; exact heap_alloc_new _ _
  obtain ⟨x0, x1, _⟩ := blk2 hr0
  have HW0 := Lib.hid hW0
  clear hW0 hr0
  obtain ⟨q, hq⟩ : ∃ q, decide (0 ≤ a ∧ b ≤ size - a) = q := ⟨_, rfl⟩
  rw [hq]
  have HQ := Lib.hid hq
  clear hq
  go_enter Try.func72, Try.ntmps72
  go_upto_region 1 with (fail)
  rw [HW0.out]
  by_cases c1 : 0 ≤ a
  · by_cases c2 : b ≤ size
    · have hsw : IntKind.i64.wrap (size - b) = size - b := IntWalk.i64_in _ (by omega)
      by_cases c3 : a ≤ size - b
      · have hE : Hid (true = q) := by rw [Hid, ← HQ.out]; simp; omega
        go_wp2_with fail
        go_ret
        exact ⟨ret_bool hE.out, hB0⟩
      · have hE : Hid (false = q) := by rw [Hid, ← HQ.out]; simp; omega
        go_wp2_with fail
        go_ret
        exact ⟨ret_bool hE.out, hB0⟩
    · have hE : Hid (false = q) := by rw [Hid, ← HQ.out]; simp; omega
      go_wp2_with fail
      go_ret
      exact ⟨ret_bool hE.out, hB0⟩
  · have hE : Hid (false = q) := by rw [Hid, ← HQ.out]; simp; omega
    go_wp2_with fail
    go_ret
    exact ⟨ret_bool hE.out, hB0⟩
set_option maxHeartbeats 4000000 in
theorem ref01Check_any (A : Option Addr) (c n : Nat) (l : List Ext) (size r : Int) (w : World) (hn : l.length = n) (hr : extE l size = r) (h1 : SlAt encExt w (Bl w.heap.size) A l) (hl : n ≤ 9223372036854775807) :
    Calls Try.prog 43 #[.slice A n c, .int .i64 size] w fun e w' => e = .returned (.int .i64 r) ∧ Below w.heap.size w w' := by
  subst hn
  have HR := Lib.hid hr; clear hr
  have H1 : Hid (∀ w', Below w.heap.size w w' → SlAt encExt w' (Bl w.heap.size) A l) := fun w' hb => h1.below hb
  clear h1
  go_enter Try.func43, Try.ntmps43
  by_cases hs0 : size < 0
  · have hE : Hid ((2 : Int) = r) := by rw [Hid, ← HR.out, extE, if_pos (Or.inl hs0)]
    go_wp2
    go_ret
    exact ⟨ret_int hE.out, Below.refl _ _⟩
  by_cases hs1 : 4096 < size
  · have hE : Hid ((2 : Int) = r) := by rw [Hid, ← HR.out, extE, if_pos (Or.inr hs1)]
    go_wp2
    go_ret
    exact ⟨ret_int hE.out, Below.refl _ _⟩
  have hR2 : Hid (exE size 0 l = r) := by rw [Hid, ← HR.out, extE, if_neg (by omega)]
  clear HR
  go_wp2
  go_loopw [5, 6] (fun nv i wr => ∃ (k : Nat) (nx : Int), k ≤ l.length ∧ i = .int .i64 k ∧ nv = .int .i64 nx ∧ Below w.heap.size w wr ∧ Hid (exE size 0 (l.take k) = 0) ∧ Hid (nx + 2 = nextE 0 (l.take k)) ∧ (-2 ≤ nx ∧ nx ≤ 4097)) (fun _ i _ => l.length - (intOf i).toNat)
  case atStart => exact ⟨0, -2, by omega, rfl, rfl, Below.refl _ _, rfl, rfl, by omega, by omega⟩
  case round =>
    obtain ⟨wo, rfl⟩ : ∃ wo : World, wo = wr := ⟨_, rfl⟩
    obtain ⟨k, nx, hk, rfl, rfl, hB, hok, hnx, hn0, hn1⟩ := hrel
    by_cases hlt : k < l.length
    · obtain ⟨b, off, rfl, hb, g0, g1, hi1, hi2⟩ := (H1.out wo hB).ext hlt
      have hstep := exE_snoc (size := size) l[k] hok.out
      rw [← List.take_succ_eq_append_getElem hlt, ← hnx.out] at hstep
      have hbad : exE size 0 (l.take (k + 1)) ≠ 0 → exE size 0 (l.take (k + 1)) = r := fun h => by
        rw [← hR2.out]
        conv => rhs; rw [← List.take_append_drop (k + 1) l]
        exact (exE_app h).symm
      have hnext : nextE 0 (l.take (k + 1)) = l[k].1 + l[k].2 + 1 := by
        unfold nextE; rw [List.take_succ_eq_append_getElem hlt, List.getLast?_concat]; rfl
      obtain ⟨x, hx⟩ : ∃ x, l[k] = x := ⟨_, rfl⟩
      rw [hx] at g0 g1 hi1 hi2 hstep hnext
      obtain ⟨st, ct⟩ := x
      simp only at g0 g1 hi1 hi2 hstep hnext
      have HSTEP := Lib.hid hstep
      have HBAD := Lib.hid hbad
      have HNEXT := Lib.hid hnext
      have hki : (k : Int) < l.length := by omega
      have hnn : (0 : Int) ≤ k := by omega
      clear hx hstep hbad hnext
      unfold I64 at hi1 hi2
      obtain ⟨q1, q2⟩ := hi1
      obtain ⟨q3, q4⟩ := hi2
      by_cases c1 : ct ≤ 0
      · have hE : Hid ((1 : Int) = r) := by
          have e := HSTEP.out
          rw [if_pos c1] at e
          rw [Hid, ← HBAD.out (by rw [e]; decide), e]
        go_wp2_with fail
        go_ret
        exact ⟨ret_int hE.out, hB⟩
      have HWI := Lib.hid (within01_any st ct size wo (by omega) ⟨by omega, by omega⟩)
      have HG : Hid (∀ W, Below wo.heap.size wo W → W.cell? ⟨b, off + k * 2, none⟩ = some (.int .i64 st) ∧ W.cell? ⟨b, off + k * 2 + 1, none⟩ = some (.int .i64 ct)) := fun W hb' => by
        have hbb : b < wo.heap.size := Nat.lt_of_lt_of_le hb hB.size
        exact ⟨(World.cell?_of_block (hb'.block b hbb)).trans g0, (World.cell?_of_block (hb'.block b hbb)).trans g1⟩
      have hB' := Lib.hid hB
      go_wp2_with fail
      refine HWI.out.mono ?_
      rintro e w3 ⟨rfl, hb3⟩
      clear g0 g1
      obtain ⟨g0, g1⟩ := HG.out w3 hb3
      have hB3 : Below w.heap.size w w3 := ext_trans hB'.out hb3
      by_cases c2 : 0 ≤ st ∧ ct ≤ size - st
      · have hdc : decide (0 ≤ st ∧ ct ≤ size - st) = true := decide_eq_true c2
        rw [hdc]
        clear hdc
        obtain ⟨c2a, c2b⟩ := c2
        by_cases c4 : st < nx + 2
        · have hE : Hid ((3 : Int) = r) := by
            have e := HSTEP.out
            rw [if_neg (by omega), if_neg (by omega), if_pos c4] at e
            rw [Hid, ← HBAD.out (by rw [e]; decide), e]
          go_wp2_with fail
          go_ret
          exact ⟨ret_int hE.out, hB3⟩
        have hE : Hid (exE size 0 (l.take (k + 1)) = 0) := by
          have e := HSTEP.out
          rw [if_neg (by omega), if_neg (by omega), if_neg c4] at e
          exact e
        go_wp2_with fail
        go_quiet (fail)
        generalize hWq : w3.drewN _ = wq
        have hdq : Drew w3 wq := ⟨_, hWq.symm⟩
        clear hWq
        go_wp2_with fail
        go_roundw
        case rel => exact ⟨k + 1, st + ct - 1, hlt, by go_num, by go_num, hB3.trans (hdq.below _), hE.out, by rw [Hid, HNEXT.out]; omega, by omega, by omega⟩
        case measure => simp [intOf]; omega
      · have hdc : decide (0 ≤ st ∧ ct ≤ size - st) = false := decide_eq_false c2
        rw [hdc]
        have hE : Hid ((2 : Int) = r) := by
          have e := HSTEP.out
          rw [if_neg (by omega), if_pos (by omega)] at e
          rw [Hid, ← HBAD.out (by rw [e]; decide), e]
        clear hdc
        go_wp2_with fail
        go_ret
        exact ⟨ret_int hE.out, hB3⟩
    · have hkI : ¬ (k : Int) < l.length := by omega
      have hE : Hid ((0 : Int) = r) := by
        have h := hok.out
        rw [List.take_of_length_le (by omega)] at h
        rw [Hid, ← hR2.out, h]
      go_wp2
      go_ret
      exact ⟨ret_int hE.out, hB⟩
end Go.Proofs.Ytjehedfdikdfpaa
namespace Go.Proofs.Ytjehedfdikdfpaa
open Go.RowKit Go.Shelf
attribute [local go_sem] Oper.semAt_some

theorem toI_snoc (l : List Nat) (x : Nat) : toI (l ++ [x]) = toI l ++ [(x : Int)] := by simp [toI]
theorem numsL_part (l : List Ext) (k m : Nat) (hk : k < l.length) : (numsL (l.take k) ++ (List.range (m + 1)).map fun i => l[k].1.toNat + i) = (numsL (l.take k) ++ (List.range m).map fun i => l[k].1.toNat + i) ++ [l[k].1.toNat + m] := by
  rw [List.range_succ, List.map_append, ← List.append_assoc]; rfl
set_option maxHeartbeats 4000000 in
set_option maxRecDepth 100000 in
theorem refNodes_any (A : Option Addr) (c n : Nat) (l : List Ext) (w : World) (hn : l.length = n) (h1 : SlAt encExt w (Bl w.heap.size) A l) (hl : n ≤ 100000) (hc : ∀ e ∈ l, 0 ≤ e.1 ∧ 0 < e.2 ∧ e.1 + e.2 ≤ 4096) (hN : (numsL l).length ≤ 8192) :
    Calls Try.prog 48 #[.slice A n c] w (RetSl encInt (toI (numsL l)) w) := by
  subst hn
  obtain ⟨n0, hn0⟩ : ∃ n0, w.heap.size = n0 := ⟨_, rfl⟩
  have HN0 := Lib.hid hn0
  rw [hn0] at h1
  have H1 : Hid (∀ w', Below n0 w w' → SlAt encExt w' (Bl n0) A l) := fun w' hb => h1.below hb
  have HC := Lib.hid hc
  have HN := Lib.hid hN
  clear h1 hc hN
  go_enter Try.func48, Try.ntmps48
  go_wp2
  go_loopw [3, 4] (fun v i wr => ∃ (k : Nat) (B : Option Addr) (vc : Nat) (out : List Int), k ≤ l.length ∧ i = .int .i64 k ∧ v = .slice B out.length vc ∧ Below n0 w wr ∧ n0 ≤ wr.heap.size ∧ Hid (out = toI (numsL (l.take k))) ∧ Hid (OwnX (fun _ => False) encInt wr n0 3 (.slice B out.length vc) out)) (fun _ i _ => l.length - (intOf i).toNat)
  case atStart => exact ⟨0, none, 0, [], by omega, rfl, rfl, Below.refl _ _, by omega, by simp [Hid, numsL, toI], OwnX.nil_⟩
  case round =>
    obtain ⟨wo, rfl⟩ : ∃ wo : World, wo = wr := ⟨_, rfl⟩
    obtain ⟨k, B, vc, out, hk, rfl, rfl, hB, hz, hout, hown⟩ := hrel
    by_cases hlt : k < l.length
    · obtain ⟨hst0, hct0, hle⟩ := HC.out l[k] (List.getElem_mem hlt)
      have hpart := numsL_part l k
      have htk := numsL_take_succ hlt
      have hlen : ∀ m, m < l[k].2.toNat → (numsL (l.take k)).length + m < 8192 := fun m hm => by have := numsL_len_take hlt hm; have := HN.out; omega
      have HG : Hid (∀ wr, Below n0 w wr → ∃ b off, A = some ⟨b, off, none⟩ ∧ wr.cell? ⟨b, off + k * 2, none⟩ = some (.int .i64 l[k].1) ∧ wr.cell? ⟨b, off + k * 2 + 1, none⟩ = some (.int .i64 l[k].2)) := fun wr hb => by
        obtain ⟨b, off, h, _, g0, g1, _⟩ := (H1.out wr hb).ext hlt
        exact ⟨b, off, h, g0, g1⟩
      obtain ⟨x, hx⟩ : ∃ x, l[k] = x := ⟨_, rfl⟩
      rw [hx] at hst0 hct0 hle HG htk hlen
      have hpart' := fun m => (hpart m hlt)
      rw [hx] at hpart'
      obtain ⟨e1, e2⟩ := x
      obtain ⟨s, rfl⟩ : ∃ s : Nat, e1 = (s : Int) := ⟨e1.toNat, by simp only at hst0; omega⟩
      obtain ⟨ct, rfl⟩ : ∃ ct : Nat, e2 = (ct : Int) := ⟨e2.toNat, by simp only at hct0; omega⟩
      simp only [Int.toNat_natCast] at hst0 hct0 hle HG htk hlen hpart'
      have HTK := Lib.hid htk
      have HPT := Lib.hid hpart'
      have HLN := Lib.hid hlen
      have hki : (k : Int) < l.length := by omega
      have hnn : (0 : Int) ≤ k := by omega
      have hct4 : ct ≤ 4096 := by omega
      have hst4 : s ≤ 4096 := by omega
      have hct1 : 0 < ct := by omega
      have HLE : Hid (s + ct ≤ 4096) := by have := hle; show s + ct ≤ 4096; omega
      clear hx htk hpart hpart' hlen hle hct0 hst0
      go_wp2_with fail
      go_loopw [3, 5] (fun v i wr => ∃ (m : Nat) (B : Option Addr) (vc : Nat) (out : List Int), m ≤ ct ∧ i = .int .i64 m ∧ v = .slice B out.length vc ∧ Below n0 w wr ∧ n0 ≤ wr.heap.size ∧ Hid (out = toI (numsL (l.take k) ++ (List.range m).map fun i => s + i)) ∧ Hid (OwnX (fun _ => False) encInt wr n0 3 (.slice B out.length vc) out)) (fun _ i _ => ct - (intOf i).toNat)
      case atStart => exact ⟨0, B, vc, out, by omega, rfl, rfl, hB, hz, by rw [Hid, hout.out]; simp, hown.out⟩
      case round =>
        clear hB hz hout hown
        obtain ⟨wo, rfl⟩ : ∃ wo : World, wo = wr := ⟨_, rfl⟩
        obtain ⟨m, B, vc, out, hm, rfl, rfl, hB, hz, hout, hown⟩ := hrel
        obtain ⟨b, off, rfl, g0, g1⟩ := HG.out wo hB
        by_cases hlt2 : m < ct
        · have hol : out.length ≤ 8192 := by
            have h1 := HLN.out m hlt2
            rw [hout.out, toI_len, List.length_append, List.length_map, List.length_range]
            omega
          have hmi : (m : Int) < ct := by omega
          have hst := HPT.out m
          have hsum : (s : Int) + (m : Int) = ((s + m : Nat) : Int) := by simp
          have hsm : s + m ≤ 4096 := by have := HLE.out; omega
          obtain ⟨y, hy⟩ : ∃ y, s + m = y := ⟨_, rfl⟩
          rw [hy] at hst hsum hsm
          have HST := Lib.hid hst
          have HY := Lib.hid hy
          clear hst hy
          have hlt5 := hown.out.lt
          have HO5 := Lib.hid (hown.out.alloc (.cells #[.int .i64 (y : Int)] 3))
          have HO5o := Lib.hid HO5.out.1
          have HRD : Hid (encInt.rd (wo.alloc (.cells #[.int .i64 (y : Int)] 3)) (fun b => Nw n0 (wo.alloc (.cells #[.int .i64 (y : Int)] 3)).heap.size b ∧ ¬ (fun _ => False) b ∧ (Value.slice B out.length vc).ownBlock ≠ some b) [.int .i64 (y : Int)] (y : Int)) := ⟨rfl, by unfold I64; omega⟩
          have HB0 := Lib.hid hB
          go_wp2_with (at_builtin; refine Hid.out ?_)
          change wpList _ _ _ _ _ _
          refine wpList_app1 (E := encInt) tyInts44 rfl _ _ rfl rfl HO5o.out (y : Int) [.int .i64 (y : Int)] rfl HRD.out (heap_alloc_new _ _) (fun _ h => h.1.2) (by simp; omega) (by unfold maxLen; omega) (by omega) ?_
          intro A' c' w5 hown5 hg5 hat5
          have hO7 := Lib.hid (HO5.out.app hown5 hg5 hat5 (fun g h => h.elim))
          have hB7 : Hid (Below n0 w w5) := (HB0.out.alloc (by omega) (.cells #[.int .i64 (y : Int)] 3)).grown hg5 (by simp; omega) (fun g h => (hlt5 g h).1)
          have hz7 : n0 ≤ w5.heap.size := by have := hg5.size; simp at this; omega
          clear hown5 hg5 hat5 hlt5 g0 g1
          go_wp2_with fail
          go_roundw
          case rel =>
            refine ⟨m + 1, A', c', out ++ [(y : Int)], hlt2, by go_num, by simp, hB7.out, hz7, ?_, ?_⟩
            · rw [Hid, HST.out, toI_snoc, hout.out]
            · have := hO7.out; simpa [Hid] using this
          case measure => simp [intOf]; omega
        · have hmm : m = ct := by omega
          subst hmm
          have hmi : ¬ (m : Int) < m := by omega
          go_wp2_with fail
          go_roundw
          case rel => exact ⟨k + 1, B, vc, out, hlt, by go_num, rfl, hB, hz, by rw [Hid, hout.out, HTK.out], hown.out⟩
          case measure => simp [intOf]; omega
    · have hkk : k = l.length := by omega
      subst hkk
      go_wp2
      go_ret
      have e := hout.out
      rw [List.take_length] at e
      rw [← e]
      obtain ⟨_, p1, p2, p3⟩ := hown.out.parts
      exact ⟨B, vc, rfl, p1, p2, p3.more (fun g hg => by rw [HN0.out]; exact hg.1), by rw [HN0.out]; exact hB⟩
theorem joinN_take {is : List Nat} {k : Nat} (hk : k < is.length) : joinN (is.take (k + 1)) = extStep (joinN (is.take k)) ((is[k] : Int), 1) := by
  unfold joinN
  rw [List.take_succ_eq_append_getElem hk, List.map_append, List.map_singleton, extsL_snoc]
theorem joinN_leaf {is : List Nat} (hr : ∀ i ∈ is, i < 4096) : joinN is = extsL (is.map (leafE 4096 1)) := by
  unfold joinN
  congr 1
  refine List.map_congr_left (fun i hi => ?_)
  have := hr i hi
  unfold leafE
  rw [Nat.mul_one, Nat.min_eq_left (by omega)]
  rfl
set_option maxHeartbeats 4000000 in
theorem refExtents_any (L c : Nat) (A : Option Addr) (is : List Nat) (w : World) (hL : (toI is).length = L) (hs : is.Pairwise (· < ·)) (hr : ∀ i ∈ is, i < 4096) (h1 : SlAt encInt w (Bl w.heap.size) A (toI is)) (hl : L ≤ 8192) :
    Calls Try.prog 58 #[.slice A L c] w (RetSl encExt (joinN is) w) := by
  subst hL
  have H1 : Hid (∀ w', Below w.heap.size w w' → SlAt encInt w' (Bl w.heap.size) A (toI is)) := fun w' hb => h1.below hb
  clear h1
  have HS := Lib.hid hs; clear hs
  have HR := Lib.hid hr; clear hr
  rw [toI_len] at hl ⊢
  go_enter Try.func58, Try.ntmps58
  go_wp2
  go_loopw [3, 4] (fun v i wr => ∃ (k : Nat) (B : Option Addr) (vc : Nat) (out : List Ext), k ≤ is.length ∧ i = .int .i64 k ∧ v = .slice B out.length vc ∧ Below w.heap.size w wr ∧ Hid (out = joinN (is.take k)) ∧ Own encExt wr w.heap.size 67 (fun _ => False) (.slice B out.length vc) out) (fun _ i _ => is.length - (intOf i).toNat)
  case atStart => exact ⟨0, none, 0, [], by omega, rfl, rfl, Below.refl _ _, rfl, Own.nil_⟩
  case round =>
    obtain ⟨wo, rfl⟩ : ∃ wo : World, wo = wr := ⟨_, rfl⟩
    obtain ⟨k, B, vc, out, hk, rfl, rfl, hB, hout, hown⟩ := hrel
    by_cases hlt : k < is.length
    · have hlt' : k < (toI is).length := by rw [toI_len]; exact hlt
      have hki : (k : Int) < (toI is).length := by omega
      have hnn : (0 : Int) ≤ k := by omega
      obtain ⟨b, off, rfl, hb, hc, hi64⟩ := (H1.out wo hB).int hlt'
      rw [toI_at hlt] at hc
      have hib := HR.out is[k] (List.getElem_mem hlt)
      have hst := joinN_take hlt
      rw [← hout.out] at hst
      have hr2 : ∀ i ∈ is.take k, i < 4096 := fun i hi => HR.out i (List.mem_of_mem_take hi)
      have hbd := exts_bound (n := 4096) (m := 1) (by omega) (by omega) (is := is.take k) (HS.out.sublist (List.take_sublist _ _)) (fun i hi => by have := hr2 i hi; unfold leavesN; omega)
      rw [← joinN_leaf hr2, ← hout.out] at hbd
      have HBD := Lib.hid hbd.1
      have hol := hbd.2
      clear hbd hr2
      obtain ⟨i, hi⟩ : ∃ i, is[k] = i := ⟨_, rfl⟩
      rw [hi] at hc hib hst
      have HST := Lib.hid hst
      have hi0 : (0 : Int) ≤ i := by omega
      have i1 : I64 (i : Int) := by unfold I64; omega
      have i2 : I64 1 := by unfold I64; omega
      clear hi hst hi64 hlt'
      by_cases h0 : out.length = 0
      · have hg0 : decide (0 < out.length) = false := decide_eq_false (by omega)
        have hnw : Hid (extStep out ((i : Int), 1) = out ++ [((i : Int), 1)]) := extStep_new (fun s cc hg => by
          rw [List.eq_nil_of_length_eq_zero h0] at hg; simp at hg)
        clear h0
        go_upto_region 6 with (fail)
        go_quiet (fail)
        generalize hW6 : wo.drewN _ = W6
        have hd6 : Drew wo W6 := ⟨_, hW6.symm⟩
        have hB6 : Below w.heap.size w W6 := hB.trans ((hd6.below _).mono hB.size)
        have hown6 := Lib.hid (hown.below (hd6.below _) (fun _ h => h.elim))
        have r0 := (hd6.cell ⟨b, off + k, none⟩).trans hc
        have hsz6 := hB6.size
        clear hW6 hc
        have HO := Lib.hid (hown6.out.alloc (fun _ h => h.elim) (.cells #[.int .i64 (i : Int), .int .i64 1] 67))
        have s1 : w.heap.size ≤ (W6.alloc (.cells #[.int .i64 (i : Int), .int .i64 1] 67)).heap.size := by simp; omega
        have s2 : out.length + 1 ≤ maxLen := by simp [maxLen]; omega
        have s3 : (out.length + 1) * 16 ≤ 140737488355328 := by omega
        go_wp2_with (at_builtin; refine wpList_app1 (E := encExt) tyExtsI rfl _ _ rfl rfl HO.out ((i : Int), 1) [.int .i64 (i : Int), .int .i64 1] rfl (ext_mk (x := ((i : Int), 1)) i1 i2) (heap_alloc_new _ _) (fun _ h => h.elim) s1 s2 s3 ?_; intro A' c' w1 hown2 hg hat)
        go_roundw
        case rel =>
          refine ⟨k + 1, A', c', out ++ [((i : Int), 1)], hlt, by go_num, by simp, ?_, ?_, ?_⟩
          · exact (hB6.alloc hB6.size _).grown hg s1 (fun g h => (hown6.out.lt g h).1)
          · rw [HST.out, hnw.out]; exact rfl
          · simpa using hown2
        case measure => simp [intOf]; omega
      · have hg0 : decide (0 < out.length) = true := decide_eq_true (by omega)
        obtain ⟨s, cc, hlast⟩ : ∃ s cc, out[out.length - 1]'(by omega) = (s, cc) := ⟨_, _, rfl⟩
        have hgl : out.getLast? = some (s, cc) := by rw [List.getLast?_eq_getElem?, List.getElem?_eq_getElem (by omega), hlast]
        have hsn := HBD.out (s, cc) (List.mem_of_getLast? hgl)
        simp only at hsn
        obtain ⟨hsn0, hcc0, hsn4⟩ := hsn
        obtain ⟨g, cs, rfl, hg1, hg2, _, hcell, hfz, hrd⟩ := hown.elem (i := out.length - 1) (by omega)
        obtain ⟨rfl, _, _⟩ := ext_cs hrd
        rw [hlast] at hcell
        have d0 := hcell 0 _ rfl
        have d1 := hcell 1 _ rfl
        have e4 : ((out.length : Int) - 1).toNat = out.length - 1 := by omega
        have e5 : (1 : Int) ≤ out.length := by omega
        simp only [show encExt.size = 2 from rfl, Nat.add_zero] at d0 d1
        by_cases hj : s + cc = (i : Int)
        · have hj' : (s + cc == (i : Int)) = true := by simp [hj]
          have hmore : Hid (extStep out ((i : Int), 1) = out.set (out.length - 1) (s, cc + 1)) := extStep_more hgl hj
          clear hj hgl hcell hrd
          go_upto_region 6 with (fail)
          go_quiet (fail)
          generalize hW6 : wo.drewN _ = W6
          have hd6 : Drew wo W6 := ⟨_, hW6.symm⟩
          have hB6 : Below w.heap.size w W6 := hB.trans ((hd6.below _).mono hB.size)
          have hown6 := Lib.hid (hown.below (hd6.below _) (fun _ h => h.elim))
          have r0 := (hd6.cell ⟨b, off + k, none⟩).trans hc
          have hsz6 := hB6.size
          clear hW6 hc
          have hst6 := Lib.hid (hown6.out.stored (i := out.length - 1) (j := 1) (by omega) (by decide) (.int .i64 (cc + 1)) (s, cc + 1) (fun cs hr => by
              obtain ⟨rfl, _, _⟩ := ext_cs hr
              rw [hlast]
              exact ext_mk (x := (s, cc + 1)) (by unfold I64; simp only; omega) (by unfold I64; simp only; omega)))
          have f0 := (hd6.cell ⟨g, (out.length - 1) * 2, none⟩).trans d0
          have f1 := (hd6.cell ⟨g, (out.length - 1) * 2 + 1, none⟩).trans d1
          have hfz6 : W6.frozen? ⟨g, (out.length - 1) * 2 + 1, none⟩ = false := by
            obtain ⟨g', cs', he', _, _, _, _, hfz', _⟩ := hown6.out.elem (i := out.length - 1) (by omega)
            injection he' with he'
            injection he' with he'
            rw [he']
            exact hfz' _
          clear d0 d1 hlast hd6
          go_wp2_with fail
          go_roundw
          case rel =>
            simp only [show encExt.size = 2 from rfl] at hst6
            refine ⟨k + 1, some ⟨g, 0, none⟩, vc, out.set (out.length - 1) (s, cc + 1), hlt, by go_num, by simp, (hB6.setCell (p := ⟨g, (out.length - 1) * 2 + 1, none⟩) hg1 _), by rw [HST.out, hmore.out]; exact rfl, ?_⟩
            have := hst6.out
            simpa using this
          case measure => simp [intOf]; omega
        · have hj' : (s + cc == (i : Int)) = false := by simp [hj]
          have hnw : Hid (extStep out ((i : Int), 1) = out ++ [((i : Int), 1)]) := extStep_new (fun s' c' hg => by
            rw [hgl] at hg
            simp only [Option.some.injEq, Prod.mk.injEq] at hg
            obtain ⟨rfl, rfl⟩ := hg
            exact hj)
          clear hj hgl hcell
          go_upto_region 6 with (fail)
          go_quiet (fail)
          generalize hW6 : wo.drewN _ = W6
          have hd6 : Drew wo W6 := ⟨_, hW6.symm⟩
          have hB6 : Below w.heap.size w W6 := hB.trans ((hd6.below _).mono hB.size)
          have hown6 := Lib.hid (hown.below (hd6.below _) (fun _ h => h.elim))
          have r0 := (hd6.cell ⟨b, off + k, none⟩).trans hc
          have hsz6 := hB6.size
          clear hW6 hc
          clear d0 d1 hd6 hfz hg1 hg2
          have HO := Lib.hid (hown6.out.alloc (fun _ h => h.elim) (.cells #[.int .i64 (i : Int), .int .i64 1] 67))
          have s1 : w.heap.size ≤ (W6.alloc (.cells #[.int .i64 (i : Int), .int .i64 1] 67)).heap.size := by simp; omega
          have s2 : out.length + 1 ≤ maxLen := by simp [maxLen]; omega
          have s3 : (out.length + 1) * 16 ≤ 140737488355328 := by omega
          go_wp2_with (at_builtin; refine wpList_app1 (E := encExt) tyExtsI rfl _ _ rfl rfl HO.out ((i : Int), 1) [.int .i64 (i : Int), .int .i64 1] rfl (ext_mk (x := ((i : Int), 1)) i1 i2) (heap_alloc_new _ _) (fun _ h => h.elim) s1 s2 s3 ?_; intro A' c' w1 hown2 hg hat)
          go_roundw
          case rel =>
            refine ⟨k + 1, A', c', out ++ [((i : Int), 1)], hlt, by go_num, by simp, ?_, ?_, ?_⟩
            · exact (hB6.alloc hB6.size _).grown hg s1 (fun g h => (hown6.out.lt g h).1)
            · rw [HST.out, hnw.out]; exact rfl
            · simpa using hown2
          case measure => simp [intOf]; omega
    · have hkk : k = is.length := by omega
      subst hkk
      go_wp2
      go_ret
      have e := hout.out
      rw [List.take_length] at e
      rw [← e]
      exact Ret.sl ⟨_, rfl, hown.rd (fun _ h => h.elim), hB⟩
end Go.Proofs.Ytjehedfdikdfpaa
namespace Go.Proofs.Ytjehedfdikdfpaa
open Go.RowKit Go.Shelf
attribute [local go_sem] Oper.semAt_some

set_option maxHeartbeats 4000000 in
set_option maxRecDepth 100000 in
theorem refReq_any (s lf lv sent : Int) (done : Bool) (A P F : Option Addr) (n c pn pc fn fc : Nat) (p : List Ext) (w : World) (hpn : p.length = pn) (hl : pn ≤ 100000) (hI : I64 s ∧ I64 lf) (h1 : SlAt encExt w (Bl w.heap.size) P p) :
    Calls Try.prog 40 #[.agg #[.int .i64 s, .int .i64 lf, .slice A n c, .slice P pn pc, .int .i64 lv, .slice F fn fc, .int .i64 sent, .bool done]] w fun e w' => ∃ V vc, e = .returned (.agg #[.int .i64 13, .int .i64 0, .int .i64 0, .int .i64 lv, .int .i64 0, .int .i64 0, .slice V (reqL s lf p).length vc, .slice none 0 0]) ∧ ((reqL s lf p).length ≤ vc ∧ vc ≤ maxLen ∧ SlAt encInt w' (Nw w.heap.size w'.heap.size) V (reqL s lf p)) ∧ Below w.heap.size w w' := by
  subst hpn
  obtain ⟨n0, hn0⟩ : ∃ n0, w.heap.size = n0 := ⟨_, rfl⟩
  obtain ⟨W0, hW0⟩ : ∃ W0, (w.alloc (.cells #[.int .i64 s, .int .i64 lf, .slice A n c, .slice P p.length pc, .int .i64 lv, .slice F fn fc, .int .i64 sent, .bool done] 27)).alloc (.cells #[.int .i64 0, .int .i64 0, .int .i64 0, .int .i64 0, .int .i64 0, .int .i64 0, .slice none 0 0, .slice none 0 0] 45) = W0 := ⟨_, rfl⟩
  have hB0 : Below n0 w W0 := by rw [← hW0, ← hn0]; exact ext_alloc (ext_alloc (Below.refl _ _))
  have hr0 : W0.heap[n0]? = some (.cells #[.int .i64 s, .int .i64 lf, .slice A n c, .slice P p.length pc, .int .i64 lv, .slice F fn fc, .int .i64 sent, .bool done] 27 (0, 0)) := by
    rw [← hW0, ← hn0]; exact (Below.heap_alloc _ _ _ (by simp)).trans (heap_alloc_new _ _)
  have hr1 : W0.heap[n0 + 1]? = some (.cells #[.int .i64 0, .int .i64 0, .int .i64 0, .int .i64 0, .int .i64 0, .int .i64 0, .slice none 0 0, .slice none 0 0] 45 (0, 0)) := by
    rw [← hW0, ← hn0]; exact heap_new2 _ _ _
  obtain ⟨n1, hn1⟩ : ∃ n1, W0.heap.size = n1 := ⟨_, rfl⟩
  have hn01 : n0 + 1 < n1 := by rw [← hn1, ← hW0, ← hn0]; simp
  have HRW : Hid (∀ W : World, W.heap[n0]? = W0.heap[n0]? → W.heap[n0]? = some (.cells #[.int .i64 s, .int .i64 lf, .slice A n c, .slice P p.length pc, .int .i64 lv, .slice F fn fc, .int .i64 sent, .bool done] 27 (0, 0))) := fun W hb => hb.trans hr0
  obtain ⟨c0, c1, c2, c3, c4, c5, c6, c7, _⟩ := blk8 (HRW.out W0 rfl)
  obtain ⟨W1, hW1⟩ : ∃ W1, W0.alloc (.cells #[.int .i64 s, .int .i64 lf] 3) = W1 := ⟨_, rfl⟩
  have hb1 : Below n1 W0 W1 := by rw [← hW1, ← hn1]; exact ext_alloc (Below.refl _ _)
  have hO1 : Hid (OwnX (fun _ => False) encInt W1 n1 3 (.slice (some ⟨n1, 0, none⟩) 2 2) [s, lf]) := by
    rw [← hW1, ← hn1]
    exact (show OwnX (fun _ => False) encInt (W0.alloc (.cells #[.int .i64 s, .int .i64 lf] 3)) W0.heap.size 3 (.slice (some ⟨W0.heap.size, 0, none⟩) 2 2) [s, lf] from ⟨⟨[[.int .i64 s], [.int .i64 lf]], World.ownsRow_lit W0 #[.int .i64 s, .int .i64 lf] 2 (by omega) (by unfold maxLen; omega) rfl, ⟨⟨rfl, hI.1⟩, ⟨rfl, hI.2⟩, trivial⟩, fun g hg hS => hS.2.2 hg⟩, fun _ _ h => h⟩)
  have hz1 : n1 < W1.heap.size := by rw [← hW1, ← hn1]; simp
  have HP1 : Hid (∀ W, Below n1 W0 W → SlAt encExt W (Bl n0) P p) := fun W hb => by
    have h := (h1.below (w' := W0) (by rw [hn0]; exact hB0))
    rw [hn0] at h
    exact (h.blk (fun g hg => hb.block g (by have : g < n0 := hg; omega)))
  clear hr0 h1
  go_enter Try.func40, Try.ntmps40
  go_upto_region 2 with (fail)
  clear hW1 hW0 hn1
  clear c0 c1 c2 c3 c4 c5 c6 c7
  obtain ⟨c0, c1, c2, c3, c4, c5, c6, c7, _⟩ := blk8 (HRW.out W1 (hb1.block n0 (by omega)))
  go_wp2_with fail
  clear c0 c1 c2 c3 c4 c5 c6 c7
  go_loopw [3, 4] (fun v i wr => ∃ (k : Nat) (V : Option Addr) (vc : Nat) (out : List Int), k ≤ p.length ∧ i = .int .i64 k ∧ v = .slice V out.length vc ∧ Below n1 W0 wr ∧ n1 < wr.heap.size ∧ Hid (out = reqL s lf (p.take k)) ∧ Hid (OwnX (fun _ => False) encInt wr n1 3 (.slice V out.length vc) out)) (fun _ i _ => p.length - (intOf i).toNat)
  case atStart => exact ⟨0, some ⟨n1, 0, none⟩, 2, [s, lf], by omega, rfl, rfl, hb1, hz1, by simp [Hid, reqL], hO1.out⟩
  case round =>
    obtain ⟨wo, rfl⟩ : ∃ wo : World, wo = wr := ⟨_, rfl⟩
    obtain ⟨k, V, vc, out, hk, rfl, rfl, hB, hz, hout, hown⟩ := hrel
    have hol : out.length ≤ 200002 := by rw [hout.out, reqL_len, List.length_take]; omega
    by_cases hlt : k < p.length
    · obtain ⟨b2, off, rfl, hb2, g0, g1, hi1, hi2⟩ := (HP1.out wo hB).ext hlt
      have hst := Lib.hid (reqL_succ (s := s) (lf := lf) hlt)
      obtain ⟨x, hx⟩ : ∃ x, p[k] = x := ⟨_, rfl⟩
      rw [hx] at g0 g1 hi1 hi2 hst
      obtain ⟨e1, e2⟩ := x
      simp only at g0 g1 hi1 hi2 hst
      have hki : (k : Int) < p.length := by omega
      have hnn : (0 : Int) ≤ k := by omega
      have hb2' : b2 < n1 := by have : b2 < n0 := hb2; omega
      have HC : Hid (∀ W : World, (∀ g, g < n1 → W.heap[g]? = wo.heap[g]?) → W.cell? ⟨n0, 3, none⟩ = some (.slice (some ⟨b2, off, none⟩) p.length pc) ∧ W.cell? ⟨b2, off + k * 2, none⟩ = some (.int .i64 e1) ∧ W.cell? ⟨b2, off + k * 2 + 1, none⟩ = some (.int .i64 e2)) := fun W hb => by
        obtain ⟨_, _, _, q3, _⟩ := blk8 (HRW.out W ((hb n0 (by omega)).trans (hB.block n0 (by omega))))
        exact ⟨q3, (World.cell?_of_block (hb b2 hb2')).trans g0, (World.cell?_of_block (hb b2 hb2')).trans g1⟩
      obtain ⟨c3, _, _⟩ := HC.out wo (fun _ _ => rfl)
      have hlt5 := hown.out.lt
      have hO5 := Lib.hid ((hown.out.below (Below.refl wo.heap.size wo).drew).alloc (.cells #[.int .i64 e1, .int .i64 e2] 3))
      have hO5o := Lib.hid hO5.out.1
      have hsrc : Hid (SlAt encInt (wo.drew.alloc (.cells #[.int .i64 e1, .int .i64 e2] 3)) (fun g => Nw n1 (wo.drew.alloc (.cells #[.int .i64 e1, .int .i64 e2] 3)).heap.size g ∧ ¬ (fun _ => False) g ∧ (Value.slice V out.length vc).ownBlock ≠ some g) (some ⟨wo.drew.heap.size, 0, none⟩) [e1, e2]) :=
        litS44 (E := encInt) (S0 := fun _ => False) (css := [[.int .i64 e1], [.int .i64 e2]]) (heap_alloc_new _ _) rfl ⟨⟨rfl, hi1⟩, ⟨rfl, hi2⟩, trivial⟩ (fun _ h => h.elim) ⟨⟨by show n1 ≤ wo.heap.size; omega, by simp⟩, fun h => h, fun h => by have := (hlt5 _ h).2; have h9 : wo.drew.heap.size = wo.heap.size := rfl; omega⟩ (fun h => h)
      have HB0 := Lib.hid hB
      clear hx hB
      have hSw : ∀ g, g < n1 → wo.drew.heap[g]? = wo.heap[g]? := fun _ _ => rfl
      go_upto_region 5 with (fail)
      clear c3
      refine wp_region_U (fun W' => ∀ g, g < n1 → W'.heap[g]? = wo.heap[g]?) 16 (by kernel_rfl) ?_
      refine wpAnyU_takeD (i := 0) (v := ?_) rfl rfl (by kernel_rfl) (by kernel_rfl) (by kernel_rfl) (by kernel_rfl) (fun _ _ _ h => h) (by rfl) ?_ hSw ?_
      rotate_left 1
      · intro W9 hW9
        try dsimp only at hW9
        obtain ⟨p3, p4, p5⟩ := HC.out W9 hW9
        go_simp
        try with_reducible rfl
      try simp only [List.setIfInBounds_toArray, List.set_cons_zero, List.set_cons_succ]
      refine wpAnyU_takeD (i := 1) (v := ?_) rfl rfl (by kernel_rfl) (by kernel_rfl) (by kernel_rfl) (by kernel_rfl) (fun _ _ _ h => h) (by rfl) ?_ hSw ?_
      rotate_left 1
      · intro W9 hW9
        try dsimp only at hW9
        obtain ⟨p3, p4, p5⟩ := HC.out W9 hW9
        go_simp
        try with_reducible rfl
      try simp only [List.setIfInBounds_toArray, List.set_cons_zero, List.set_cons_succ]
      refine wpAnyU_takeD (i := 2) (v := ?_) rfl rfl (by kernel_rfl) (by kernel_rfl) (by kernel_rfl) (by kernel_rfl) (fun _ _ _ h => h) (by rfl) ?_ hSw ?_
      rotate_left 1
      · intro W9 hW9
        try dsimp only at hW9
        obtain ⟨p3, p4, p5⟩ := HC.out W9 hW9
        go_simp
        try with_reducible rfl
      try simp only [List.setIfInBounds_toArray, List.set_cons_zero, List.set_cons_succ]
      refine wpAnyU_takeD (i := 3) (v := ?_) rfl rfl (by kernel_rfl) (by kernel_rfl) (by kernel_rfl) (by kernel_rfl) (fun _ _ _ h => h) (by rfl) ?_ hSw ?_
      rotate_left 1
      · intro W9 hW9
        try dsimp only at hW9
        obtain ⟨p3, p4, p5⟩ := HC.out W9 hW9
        go_simp
        try with_reducible rfl
      try simp only [List.setIfInBounds_toArray, List.set_cons_zero, List.set_cons_succ]
      refine wpAnyU_takeD (i := 4) (v := ?_) rfl rfl (by kernel_rfl) (by kernel_rfl) (by kernel_rfl) (by kernel_rfl) (fun _ _ _ h => h) (by rfl) ?_ hSw ?_
      rotate_left 1
      · intro W9 hW9
        try dsimp only at hW9
        obtain ⟨p3, p4, p5⟩ := HC.out W9 hW9
        go_simp
        try with_reducible rfl
      try simp only [List.setIfInBounds_toArray, List.set_cons_zero, List.set_cons_succ]
      refine wpAnyU_takeD (i := 5) (v := ?_) rfl rfl (by kernel_rfl) (by kernel_rfl) (by kernel_rfl) (by kernel_rfl) (fun _ _ _ h => h) (by rfl) ?_ hSw ?_
      rotate_left 1
      · intro W9 hW9
        try dsimp only at hW9
        obtain ⟨p3, p4, p5⟩ := HC.out W9 hW9
        go_simp
        try with_reducible rfl
      try simp only [List.setIfInBounds_toArray, List.set_cons_zero, List.set_cons_succ]
      refine wpAnyU_takeD (i := 6) (v := ?_) rfl rfl (by kernel_rfl) (by kernel_rfl) (by kernel_rfl) (by kernel_rfl) (fun _ _ _ h => h) (by rfl) ?_ hSw ?_
      rotate_left 1
      · intro W9 hW9
        try dsimp only at hW9
        obtain ⟨p3, p4, p5⟩ := HC.out W9 hW9
        go_simp
        try with_reducible rfl
      try simp only [List.setIfInBounds_toArray, List.set_cons_zero, List.set_cons_succ]
      refine wpAnyU_takeD (i := 7) (v := ?_) rfl rfl (by kernel_rfl) (by kernel_rfl) (by kernel_rfl) (by kernel_rfl) (fun _ _ _ h => h) (by rfl) ?_ hSw ?_
      rotate_left 1
      · intro W9 hW9
        try dsimp only at hW9
        obtain ⟨p3, p4, p5⟩ := HC.out W9 hW9
        go_simp
        try with_reducible rfl
      try simp only [List.setIfInBounds_toArray, List.set_cons_zero, List.set_cons_succ]
      refine wpAnyU_takeD (i := 8) (v := ?_) rfl rfl (by kernel_rfl) (by kernel_rfl) (by kernel_rfl) (by kernel_rfl) (fun _ _ _ h => h) (by rfl) ?_ hSw ?_
      rotate_left 1
      · intro W9 hW9
        try dsimp only at hW9
        obtain ⟨p3, p4, p5⟩ := HC.out W9 hW9
        go_simp
        try with_reducible rfl
      try simp only [List.setIfInBounds_toArray, List.set_cons_zero, List.set_cons_succ]
      obtain ⟨p3, p4, p5⟩ := HC.out _ hSw
      refine wpAnyU_op (i := 9) (by kernel_rfl) rfl rfl (fun K hK => ?_)
      go_simp
      refine hK.out _ _ (fun _ => hSw) ?_
      clear hK K
      try simp only [Act.put, List.setIfInBounds_toArray, List.set_cons_zero, List.set_cons_succ]
      refine wpAnyU_op (i := 10) (by kernel_rfl) rfl rfl (fun K hK => ?_)
      go_simp
      refine hK.out _ _ (fun _ => hSw) ?_
      clear hK K
      try simp only [Act.put, List.setIfInBounds_toArray, List.set_cons_zero, List.set_cons_succ]
      refine wpAnyU_op (i := 11) (by kernel_rfl) rfl rfl (fun K hK => ?_)
      go_simp
      refine hK.out _ _ (fun _ => hSw) ?_
      clear hK K
      try simp only [Act.put, List.setIfInBounds_toArray, List.set_cons_zero, List.set_cons_succ]
      refine wpAnyU_op (i := 12) (by kernel_rfl) rfl rfl (fun K hK => ?_)
      go_simp
      refine hK.out _ _ (fun _ => hSw) ?_
      clear hK K
      try simp only [Act.put, List.setIfInBounds_toArray, List.set_cons_zero, List.set_cons_succ]
      have hSa : ∀ g, g < n1 → (wo.drew.alloc (.cells #[.int .i64 e1, .int .i64 e2] 3)).heap[g]? = wo.heap[g]? := fun g hg => (Below.heap_alloc wo.drew _ g (by show g < wo.heap.size; omega))
      refine wpAnyU_op (i := 13) (by kernel_rfl) rfl rfl (fun K hK => ?_)
      go_simp
      refine hK.out _ _ (fun _ => hSa) ?_
      clear hK K
      try simp only [Act.put, List.setIfInBounds_toArray, List.set_cons_zero, List.set_cons_succ]
      refine wpAnyU_one (i := 14) (by kernel_rfl) rfl (fun K hK => ?_)
      refine step_appAll (E := encInt) tyInts44 rfl _ _ rfl rfl hO5o.out rfl rfl hsrc.out (fun g hg => hg.1.2) (by first | omega | (simp; omega)) (by unfold maxLen; first | omega | (simp; omega)) (by first | omega | (simp; omega)) ?_
      intro A7 c7 w7 hown7 hg7 hat7
      have hO7 := Lib.hid (hO5.out.app hown7 hg7 hat7 (fun g h => h.elim))
      have hB7 : Hid (Below n1 W0 w7) := ((HB0.out.trans ((Below.refl wo.heap.size wo).drew.mono (by omega))).alloc (by show n1 ≤ wo.heap.size; omega) (.cells #[.int .i64 e1, .int .i64 e2] 3)).grown hg7 (by simp; omega) (fun g h => (hlt5 g h).1)
      have hz7 : n1 < w7.heap.size := by have := hg7.size; simp at this; omega
      have hS7 : ∀ g, g < n1 → w7.heap[g]? = wo.heap[g]? := fun g hg => (hg7.block g (by simp; omega) (fun e => by have := (hlt5 g e.symm).1; omega)).trans (hSa g hg)
      refine hK.out _ _ (fun _ => hS7) ?_
      clear hK K hown7 hg7 hat7 hlt5 p3 p4 p5
      try simp only [Act.put, List.setIfInBounds_toArray, List.set_cons_zero, List.set_cons_succ]
      refine wpAnyU_op (i := 15) (by kernel_rfl) rfl rfl (fun K hK => ?_)
      go_simp
      refine hK.out _ _ (fun _ => hS7) ?_
      clear hK K
      try simp only [Act.put, List.setIfInBounds_toArray, List.set_cons_zero, List.set_cons_succ]
      refine wpAnyU_done (by kernel_rfl) ?_ _
      clear hSa hSw hS7
      go_wp2_with fail
      go_roundw
      case rel =>
        refine ⟨k + 1, A7, c7, out ++ [e1, e2], hlt, by go_num, by simp, hB7.out, hz7, by rw [Hid, hst.out, hout.out], ?_⟩
        have := hO7.out; simpa [Hid] using this
      case measure => simp [intOf]; omega
    · have hki : ¬ (k : Int) < p.length := by omega
      have hE : Hid (out = reqL s lf p) := by rw [Hid, hout.out, List.take_of_length_le (by omega)]
      obtain ⟨_, o1, o2, o3⟩ := hown.out.parts
      have HO := Lib.hid (And.intro o1 (And.intro o2 o3))
      have hrz := (hB.block (n0 + 1) (by omega)).trans hr1
      obtain ⟨c0, c1, c2, c3, c4, c5, c6, c7, _⟩ := blk8 (HRW.out wo (hB.block n0 (by omega)))
      obtain ⟨z0, z1, z2, z3, z4, z5, z6, z7, zf⟩ := blk8 hrz
      clear hlt o1 o2 o3
      go_wp2_with fail
      have hz := set8_row hrz (.int .i64 13) (.int .i64 0) (.int .i64 0) (.int .i64 lv) (.int .i64 0) (.int .i64 0) (.slice V out.length vc) (.slice none 0 0)
      have hbe := set8_below (hB0.trans (hB.mono (by omega))) (show n0 ≤ n0 + 1 by omega) (.int .i64 13) (.int .i64 0) (.int .i64 0) (.int .i64 lv) (.int .i64 0) (.int .i64 0) (.slice V out.length vc) (.slice none 0 0)
      have hoth : ∀ g, g ≠ n0 + 1 → (set8 wo (n0 + 1) (.int .i64 13) (.int .i64 0) (.int .i64 0) (.int .i64 lv) (.int .i64 0) (.int .i64 0) (.slice V out.length vc) (.slice none 0 0)).heap[g]? = wo.heap[g]? := fun g hg => set8_other hg _ _ _ _ _ _ _ _
      have hsz : (set8 wo (n0 + 1) (.int .i64 13) (.int .i64 0) (.int .i64 0) (.int .i64 lv) (.int .i64 0) (.int .i64 0) (.slice V out.length vc) (.slice none 0 0)).heap.size = wo.heap.size := set8_sz
      change bodyPost _ _ _ _ _ (set8 wo (n0 + 1) (.int .i64 13) (.int .i64 0) (.int .i64 0) (.int .i64 lv) (.int .i64 0) (.int .i64 0) (.slice V out.length vc) (.slice none 0 0))
      generalize set8 wo (n0 + 1) (.int .i64 13) (.int .i64 0) (.int .i64 0) (.int .i64 lv) (.int .i64 0) (.int .i64 0) (.slice V out.length vc) (.slice none 0 0) = W3 at hz hbe hoth hsz ⊢
      obtain ⟨z0, z1, z2, z3, z4, z5, z6, z7, _⟩ := blk8 hz
      refine bodyPost_ret (v := .agg #[.int .i64 13, .int .i64 0, .int .i64 0, .int .i64 lv, .int .i64 0, .int .i64 0, .slice V out.length vc, .slice none 0 0]) ?_ rfl ?_
      · simp [results, Try.results40, Try.f40, go_sem, z0, z1, z2, z3, z4, z5, z6, z7]
      rw [← hE.out]
      exact ⟨V, vc, rfl, ⟨HO.out.1, HO.out.2.1, (HO.out.2.2.blk (fun g hg => hoth g (by have := hg.1.1; omega))).more (fun g hg => ⟨by have := hg.1.1; omega, by have := hg.1.2; omega⟩)⟩, hbe⟩
end Go.Proofs.Ytjehedfdikdfpaa
