/-
  Plain words: the bound for the digests that are sent; what the laws of comparing need of it. No program in sight.; What two trees have that trees returns; the law CompareSymmetric: the walk.; The law CompareBounded: the walk.; How the types of this program read; the closed facts on it.
-/
import Derived.Test.YtjehedfdikdfpaaRows
import Derived.Test.YtjehedfdikdfpaaZB05
import Derived.Test.YtjehedfdikdfpaaZB07
import Derived.Test.YtjehedfdikdfpaaZB12
set_option linter.unusedVariables false
set_option linter.unusedSimpArgs false
set_option linter.unusedSectionVars false
set_option linter.unnecessarySimpa false
namespace Go.Proofs.Ytjehedfdikdfpaa

theorem dif_len {n m : Nat} {l l' : List (List Int)} (h : TOk n m l) : (difN l l').length ≤ leavesN n m := by
  rw [difN_dfs h]
  have h0 := h.ne
  obtain ⟨hs, hr⟩ := dfs_sorted l l' (l.length - 1) 0
  have hb : ∀ i ∈ dfs l l' (l.length - 1) 0, 0 ≤ i ∧ i < leavesN n m := fun i hi => by
    have := (hr i hi).2.2
    rw [List.getD_eq_getElem?_getD, List.getElem?_eq_getElem h0, Option.getD_some, (h.at_ 0 h0).1] at this
    exact ⟨Nat.zero_le _, this⟩
  exact asc_len_le hs hb (Nat.zero_le _)
/-- a walk sends at most as many digests as the bound for the leaves that it finds -/
theorem sent_boundF {n m : Nat} {l l' : List (List Int)} (tk : TOk n m l) (tk' : TOk n m l') : sentN l l' (l.length - 1) [0] ≤ 1 + boundF 13 (leavesN n m) (difN l l').length := by
  have h := sent_le tk tk'
  have h0 := tk.ne
  have h1 := tk.len
  have hT : nk (leavesN n m) (l.length - 1) = 1 := ((tk.at_ (l.length - 1) (by omega)).2.1).2 (by omega)
  have hlt : ∀ k, k < l.length - 1 → 1 < nk (leavesN n m) k := fun k hk => by
    have a := tk.at_ k (by omega)
    rcases Nat.lt_or_ge 1 (nk (leavesN n m) k) with h | h
    · exact h
    · have : nk (leavesN n m) k = 1 := by omega
      have := a.2.1.1 this
      omega
  have e := boundF_sum (leavesN n m) (difN l l').length (l.length - 1) hT hlt 13 0 (Nat.zero_le _) (by omega)
  have e0 : bsum (leavesN n m) (difN l l').length 0 = 0 := rfl
  have e1 : nk (leavesN n m) 0 = leavesN n m := rfl
  rw [e0, e1] at e
  omega
theorem bound_ok {n m d : Nat} (hn : 1 ≤ n ∧ n ≤ 4096) (hm : 1 ≤ m ∧ m ≤ 4096) (hd : d ≤ leavesN n m) : boundE (n : Int) (m : Int) (d : Int) = 0 ∧ boundV (n : Int) (m : Int) (d : Int) = 1 + (boundF 13 (leavesN n m) d : Nat) := by
  have he : boundE (n : Int) (m : Int) (d : Int) = 0 := by
    unfold boundE
    rw [if_neg (by omega), if_neg (by omega), if_neg (by simp only [Int.toNat_natCast]; omega)]
  refine ⟨he, ?_⟩
  unfold boundV
  rw [if_pos he]
  simp only [Int.toNat_natCast]
/-- the law of the bound -/
theorem bounded_law {n m : Nat} {l l' : List (List Int)} (tk : TOk n m l) (tk' : TOk n m l') :
    (sentN l l' (l.length - 1) [0] : Int) ≤ boundV (n : Int) (m : Int) ((difN l l').length : Int) ∧ boundE (n : Int) (m : Int) ((difN l l').length : Int) = 0 ∧
    (∀ d : Nat, (difN l l').length = d + 1 → boundE (n : Int) (m : Int) (d : Int) = 0 ∧ boundV (n : Int) (m : Int) (d : Int) ≤ boundV (n : Int) (m : Int) ((difN l l').length : Int)) := by
  have hd := dif_len (l' := l') tk
  obtain ⟨e1, e2⟩ := bound_ok ⟨tk.n1, tk.n2⟩ ⟨tk.m1, tk.m2⟩ hd
  have hs := sent_boundF tk tk'
  refine ⟨by rw [e2]; omega, e1, fun d h => ?_⟩
  obtain ⟨e3, e4⟩ := bound_ok (d := d) ⟨tk.n1, tk.n2⟩ ⟨tk.m1, tk.m2⟩ (by omega)
  have := boundF_mono (show d ≤ (difN l l').length by omega) 13 (leavesN n m)
  exact ⟨e3, by rw [e2, e4]; omega⟩
end Go.Proofs.Ytjehedfdikdfpaa
namespace Go.Proofs.Ytjehedfdikdfpaa
open Go.RowKit Go.Shelf
attribute [local go_sem] Oper.semAt_some

structure TwoT (N n : Nat) (la lb : List (List Int)) : Prop where
  ca : checkT ((N : Int), (n : Int), la) = 0
  cb : checkT ((N : Int), (n : Int), lb) = 0
  ta : TOk N n la
  tb : TOk N n lb
theorem TwoT.swap {N n : Nat} {la lb : List (List Int)} (h : TwoT N n la lb) : TwoT N n lb la := ⟨h.cb, h.ca, h.tb, h.ta⟩
theorem TwoT.err {N n : Nat} {la lb : List (List Int)} (h : TwoT N n la lb) : difErr ((N : Int), (n : Int), la) ((N : Int), (n : Int), lb) = 0 := by
  unfold difErr; rw [if_neg (by rw [h.ca]; simp), if_neg (by rw [h.cb]; simp), if_neg (by simp)]
theorem TOk.rows {N n : Nat} {l : List (List Int)} (h : TOk N n l) : ∀ row ∈ l, row.length ≤ 1000000 := fun row hr => by
  obtain ⟨k, hk, rfl⟩ := List.mem_iff_getElem.1 hr
  have := (h.at_ k hk)
  omega
theorem leafN_range {leaf : Int} (h : 0 ≤ leaf ∧ leaf < 256) : 1 ≤ leafN leaf ∧ leafN leaf ≤ 12 := by unfold leafN; omega
theorem trees_two {l m : List Sec} {n : Nat} (hn : 1 ≤ n ∧ n ≤ 12) (h : treesB l m = true) : ∃ la lb, buildT l (n : Int) = ((l.length : Int), (n : Int), la) ∧ buildT m (n : Int) = ((l.length : Int), (n : Int), lb) ∧ TwoT l.length n la lb ∧ l.length ≤ 100 ∧ 1 ≤ l.length := by
  unfold treesB at h
  obtain ⟨h1, h2, h3⟩ := of_decide_eq_true h
  obtain ⟨_, b1, c1⟩ := build_ok (l := l) (m := n) ⟨h1, by omega⟩ ⟨hn.1, by omega⟩
  obtain ⟨_, b2, c2⟩ := build_ok (l := m) (m := n) ⟨by omega, by omega⟩ ⟨hn.1, by omega⟩
  rw [← h3] at b2 c2
  obtain ⟨n', m', e1, e2, tk⟩ := checkT_TOk c1
  obtain ⟨n'', m'', e3, e4, tk2⟩ := checkT_TOk c2
  obtain rfl : n' = l.length := by omega
  obtain rfl : m' = n := by omega
  obtain rfl : n'' = l.length := by omega
  obtain rfl : m'' = m' := by omega
  exact ⟨_, _, b1, b2, ⟨c1, c2, tk, tk2⟩, h2, h1⟩
end Go.Proofs.Ytjehedfdikdfpaa
namespace Go.Proofs.Ytjehedfdikdfpaa
open Go.RowKit Go.Shelf
attribute [local go_sem] Oper.semAt_some

theorem cntE_take {m : Nat} {l : List Ext} {k : Nat} (hk : k < l.length) : cntE m (l.take (k + 1)) = cntE m (l.take k) + ceilE m l[k] := by
  rw [List.take_succ_eq_append_getElem hk, cntE_app]; simp [cntE]
theorem ceilE_range {m : Nat} (hm : 1 ≤ m) {e : Ext} (h : 0 < e.2 ∧ e.2 ≤ 4096) : 0 ≤ ceilE m e ∧ ceilE m e ≤ 4096 := by
  unfold ceilE
  have hm0 : (0 : Int) < m := by omega
  refine ⟨Int.ediv_nonneg (by omega) (by omega), ?_⟩
  have : (e.2 + (m : Int) - 1) / (m : Int) ≤ e.2 := by
    refine Int.ediv_le_of_le_mul hm0 ?_
    have h1 : e.2 * (m : Int) ≥ e.2 + m - 1 := by
      have h2 : 0 ≤ (e.2 - 1) * ((m : Int) - 1) := Int.mul_nonneg (by omega) (by omega)
      have h3 : (e.2 - 1) * ((m : Int) - 1) = e.2 * m - e.2 - m + 1 := by rw [Int.sub_mul, Int.mul_sub, Int.mul_sub]; omega
      omega
    omega
  omega
theorem cntE_range {m : Nat} (hm : 1 ≤ m) {l : List Ext} (h : ∀ e ∈ l, 0 ≤ e.1 ∧ 0 < e.2 ∧ e.1 + e.2 ≤ 4096) : ∀ k, 0 ≤ cntE m (l.take k) ∧ cntE m (l.take k) ≤ 4096 * k
  | 0 => by simp [cntE]
  | k + 1 => by
    have ih := cntE_range hm h k
    by_cases hk : k < l.length
    · have h1 := h l[k] (List.getElem_mem hk)
      have h2 := ceilE_range hm (e := l[k]) ⟨h1.2.1, by omega⟩
      rw [cntE_take hk]
      omega
    · rw [List.take_of_length_le (by omega)]
      rw [List.take_of_length_le (by omega)] at ih
      omega
/-- the nodes of the levels -/
def lsum (l : List (List Int)) : Nat := (l.map List.length).sum
theorem lsum_take {l : List (List Int)} {k : Nat} (hk : k < l.length) : lsum (l.take (k + 1)) = lsum (l.take k) + (l[k]).length := by
  rw [List.take_succ_eq_append_getElem hk, lsum, List.map_append, List.sum_append]; simp [lsum]
theorem lsum_nsum {n m : Nat} {l : List (List Int)} (h : TOk n m l) : ∀ k, k ≤ l.length → lsum (l.take k) = nsum (leavesN n m) k ∧ lsum (l.take k) ≤ 4096 * k
  | 0, _ => ⟨rfl, by simp [lsum]⟩
  | k + 1, hk => by
    obtain ⟨ih1, ih2⟩ := lsum_nsum h k (by omega)
    have ha := h.at_ k (by omega)
    rw [lsum_take (by omega), ih1]
    refine ⟨?_, by have := ha.2.2.2; omega⟩
    rw [ha.1]; rfl
set_option maxHeartbeats 8000000 in
set_option maxRecDepth 100000 in
theorem bounded44_any (A A2 : Option Addr) (c c2 : Nat) (l m : List Sec) (leaf : Int) (w : World) (h1 : SlAt encSec w (Bl w.heap.size) A l) (h2 : SlAt encSec w (Bl w.heap.size) A2 m) (hc : l.length ≤ c ∧ c ≤ maxLen) (hc2 : m.length ≤ c2 ∧ c2 ≤ maxLen) (hlf : 0 ≤ leaf ∧ leaf < 256) :
    Calls Try.prog 7 #[.slice A l.length c, .slice A2 m.length c2, .int .u8 leaf] w (LawRet w) := by
  obtain ⟨n0, hn0⟩ : ∃ n0, w.heap.size = n0 := ⟨_, rfl⟩
  have HTR := Lib.hid (trees44_any A A2 c c2 l.length m.length l m leaf w rfl rfl h1 h2 hc hc2 hlf)
  have HLR := Lib.hid (leafN_range hlf)
  clear h1 h2 hc hc2
  go_enter Try.func7, Try.ntmps7
  go_wp2_with fail
  refine HTR.out.mono ?_
  rintro e w1 ⟨t1, t2, B1, B2, b1, b2, rfl, ⟨x1, x2⟩, ⟨y1, y2⟩, x3, y3, hb1, htt⟩
  clear HTR
  obtain ⟨n7, hn7⟩ : ∃ n7, w1.heap.size = n7 := ⟨_, rfl⟩
  obtain ⟨W2, hW2⟩ : ∃ W2, (w1.alloc (.cells #[.int .i64 t1.1, .int .i64 t1.2.1, .slice B1 t1.2.2.length b1] 24)).alloc (.cells #[.int .i64 t2.1, .int .i64 t2.2.1, .slice B2 t2.2.2.length b2] 24) = W2 := ⟨_, rfl⟩
  have hz2 : W2.heap.size = n7 + 2 := by rw [← hW2, ← hn7]; simp
  have hb2 : Below n7 w1 W2 := by rw [← hW2, ← hn7]; exact ext_alloc (ext_alloc (Below.refl _ _))
  have hr7 : W2.heap[n7]? = some (.cells #[.int .i64 t1.1, .int .i64 t1.2.1, .slice B1 t1.2.2.length b1] 24 (0, 0)) := by
    rw [← hW2, ← hn7]; exact (Below.heap_alloc _ _ _ (by simp)).trans (heap_alloc_new _ _)
  have hr8 : W2.heap[n7 + 1]? = some (.cells #[.int .i64 t2.1, .int .i64 t2.2.1, .slice B2 t2.2.2.length b2] 24 (0, 0)) := by
    rw [← hW2, ← hn7]; exact heap_new2 _ _ _
  have hbw2 : Below n0 w W2 := by rw [hn0] at hb1; exact hb1.trans (hb2.mono (by have := hb1.size; omega))
  have HN0 := Lib.hid hn0
  go_upto_region 2 with (fail)
  obtain ⟨ok, hok⟩ : ∃ ok, treesB l m = ok := ⟨_, rfl⟩
  rw [hok] at htt ⊢
  have HOK := Lib.hid hok
  have HN7 := Lib.hid hn7
  clear hW2 hok hn7
  cases ok with
  | false =>
    go_wp2_with fail
    have hbf : Below w.heap.size w W2 := by rw [HN0.out]; exact hbw2
    refine (awake44_any W2).mono ?_
    rintro e wz ⟨rfl, hbz⟩
    go_wp2_with fail
    go_ret
    exact ⟨by first | trivial | rfl | simp, hbf.trans (hbz.mono (hbf).size)⟩
  | true =>
    obtain ⟨q1, q2⟩ := htt rfl
    obtain ⟨la, lb, e1, e2, two, h100, hpos⟩ := trees_two HLR.out HOK.out
    have q1' := q1.trans e1
    have q2' := q2.trans e2
    subst q1' q2'
    obtain ⟨nn, hnn⟩ : ∃ nn, leafN leaf = nn := ⟨_, rfl⟩
    clear q1 q2 e1 e2 htt
    rw [hnn] at two hr7 hr8 ⊢
    simp only at x1 x3 hr7 y1 y3 hr8 ⊢
    have HTWO := Lib.hid two
    have hnn12 : 1 ≤ nn ∧ nn ≤ 12 := by rw [← hnn]; exact HLR.out
    have HW : Hid (∀ W, Below (n7 + 2) W2 W → (W.heap[n7]? = some (.cells #[.int .i64 (l.length : Int), .int .i64 (nn : Int), .slice B1 la.length b1] 24 (0, 0)) ∧ W.heap[n7 + 1]? = some (.cells #[.int .i64 (l.length : Int), .int .i64 (nn : Int), .slice B2 lb.length b2] 24 (0, 0))) ∧ SlAt (encSl encU64) W (Bl W.heap.size) B1 la ∧ SlAt (encSl encU64) W (Bl W.heap.size) B2 lb ∧ Below w.heap.size w W) := fun W hb => by
      have hz := hb.size
      have hz1 := hb2.size
      have hn7e := HN7.out
      exact ⟨⟨(hb.block n7 (by omega)).trans hr7, (hb.block (n7 + 1) (by omega)).trans hr8⟩, (x3.blk (fun g hg => (hb.block g (by have := hg.2; omega)).trans (hb2.block g (by have := hg.2; omega)))).more (fun g hg => by have := hg.2; show g < W.heap.size; omega), (y3.blk (fun g hg => (hb.block g (by have := hg.2; omega)).trans (hb2.block g (by have := hg.2; omega)))).more (fun g hg => by have := hg.2; show g < W.heap.size; omega), by rw [HN0.out]; exact hbw2.trans (hb.mono (by have := hbw2.size; omega))⟩
    have hIN : I64 (l.length : Int) ∧ I64 (nn : Int) := ⟨by unfold I64; omega, by unfold I64; omega⟩
    have hlla : la.length ≤ 13 := HTWO.out.ta.len
    have hllb : lb.length ≤ 13 := HTWO.out.tb.len
    have hne := HTWO.out.ta.ne
    have HRN1 := Lib.hid (fun W (hb : Below (n7 + 2) W2 W) => run_any (l.length : Int) (nn : Int) (l.length : Int) (nn : Int) B1 B2 b1 b2 la.length lb.length la lb W rfl rfl (HW.out W hb).2.1 (HW.out W hb).2.2.1 (by omega) (by omega) ⟨x1, x2⟩ ⟨y1, y2⟩ hIN hIN HTWO.out.ta.rows)
    rw [HTWO.out.err] at HRN1
    have hB2 := Below.refl (n7 + 2) W2
    have hnz : ((la.length : Int) == 0) = false := by rw [beq_eq_false_iff_ne]; omega
    obtain ⟨⟨p0, p1, p2, _⟩, z0, z1, z2, _⟩ := And.intro (blk3 (HW.out W2 hB2).1.1) (blk3 (HW.out W2 hB2).1.2)
    have HRA := Lib.hid (HRN1.out W2 hB2)
    go_wp2_with fail
    refine HRA.out.mono ?_
    rintro e w3 ⟨D, dc, rfl, g1, g2, g3, hb3⟩
    have hb23 : Below (n7 + 2) W2 w3 := hb3.mono (by omega)
    clear p0 p1 p2 z0 z1 z2 HRA HRN1
    have hbd : ∀ e ∈ difT ((l.length : Int), (nn : Int), la) ((l.length : Int), (nn : Int), lb), 0 ≤ e.1 ∧ 0 < e.2 ∧ e.1 + e.2 ≤ 4096 := by
      unfold difT; rw [if_pos HTWO.out.err]; exact (opL_bound _ _ _).1
    have hbl : (difT ((l.length : Int), (nn : Int), la) ((l.length : Int), (nn : Int), lb)).length ≤ 4096 := by
      unfold difT; rw [if_pos HTWO.out.err]; exact (opL_bound _ _ _).2
    have hcnt := cnt_dif (l' := lb) HTWO.out.ta HTWO.out.err
    obtain ⟨X, hX⟩ : ∃ X, difT ((l.length : Int), (nn : Int), la) ((l.length : Int), (nn : Int), lb) = X := ⟨_, rfl⟩
    obtain ⟨sn, hsn⟩ : ∃ sn, sentT ((l.length : Int), (nn : Int), la) ((l.length : Int), (nn : Int), lb) = sn := ⟨_, rfl⟩
    rw [hX] at hbd hbl hcnt g1 g3 ⊢
    rw [hsn]
    have HD3 : Hid (∀ W, Below w3.heap.size w3 W → SlAt encExt W (Bl w3.heap.size) D X) := fun W hb => g3.blk (fun g hg => hb.block g hg)
    have HBD := Lib.hid hbd
    have HCNT := Lib.hid hcnt
    have HSN := Lib.hid hsn
    clear hX hsn hbd hcnt g3
    go_wp2_with fail
    go_loopw [13, 53] (fun f i wr => ∃ k : Nat, k ≤ X.length ∧ i = .int .i64 k ∧ f = .int .i64 (cntE nn (X.take k)) ∧ Below w3.heap.size w3 wr) (fun _ i _ => X.length - (intOf i).toNat)
    case atStart => exact ⟨0, by omega, rfl, rfl, Below.refl _ _⟩
    case round =>
      obtain ⟨wo, rfl⟩ : ∃ wo : World, wo = wr := ⟨_, rfl⟩
      obtain ⟨k, hk, rfl, rfl, hB⟩ := hrel
      have hz3 := hb23.size
      have hb2o : Below (n7 + 2) W2 wo := hb23.trans (hB.mono (by omega))
      obtain ⟨p0, p1, p2, _⟩ := blk3 (HW.out wo hb2o).1.1
      have hr0 := cntE_range hnn12.1 HBD.out k
      by_cases hlt : k < X.length
      · obtain ⟨b, off, rfl, hb, e0, e1, i0, i1⟩ := (HD3.out wo hB).ext hlt
        have hxr := HBD.out X[k] (List.getElem_mem hlt)
        have hst := cntE_take (m := nn) hlt
        have hr1 := ceilE_range hnn12.1 (e := X[k]) ⟨hxr.2.1, by omega⟩
        obtain ⟨x, hx⟩ : ∃ x, X[k] = x := ⟨_, rfl⟩
        rw [hx] at e0 e1 hxr hst hr1
        obtain ⟨xs, xc⟩ := x
        simp only at e0 e1 hxr hst hr1
        have hce : ceilE nn (xs, xc) = (xc + (nn : Int) - 1) / (nn : Int) := rfl
        obtain ⟨ce, hcee⟩ : ∃ ce, ceilE nn (xs, xc) = ce := ⟨_, rfl⟩
        rw [hcee] at hst hr1 hce
        have hce' : (xc + (nn : Int) - 1) / (nn : Int) = ce := hce.symm
        have HST := Lib.hid hst
        obtain ⟨ct, hct⟩ : ∃ ct, cntE nn (X.take k) = ct := ⟨_, rfl⟩
        rw [hct] at hr0 HST ⊢
        have hk4 : k ≤ 4096 := by omega
        have hki : (k : Int) < X.length := by omega
        have hnn0 : (0 : Int) ≤ k := by omega
        have hnz0 : ¬ ((nn : Int) = 0) := by omega
        have hnp : (0 : Int) < nn := by omega
        have hx0 : 0 ≤ xc + (nn : Int) - 1 := by omega
        obtain ⟨W1, hW1⟩ : ∃ W1, wo.alloc (.cells #[.int .i64 xs, .int .i64 xc] 67) = W1 := ⟨_, rfl⟩
        have hb1 : Below wo.heap.size wo W1 := by rw [← hW1]; exact ext_alloc (Below.refl _ _)
        obtain ⟨v0, v1, _⟩ := blk2 (show W1.heap[wo.heap.size]? = some (.cells #[.int .i64 xs, .int .i64 xc] 67 (0, 0)) by rw [← hW1]; exact heap_alloc_new _ _)
        have hB1 : Below w3.heap.size w3 W1 := hB.trans (hb1.mono hB.size)
        have HW1 := Lib.hid hW1
        clear hst hx hct hce hcee hW1 p0 p1 p2
        go_upto_region 9 with (fail)
        rw [HW1.out]
        clear e0 e1
        obtain ⟨p0, p1, p2, _⟩ := blk3 (HW.out W1 (hb23.trans (hB1.mono (by omega)))).1.1
        go_wp2_with fail
        go_roundw
        case rel => exact ⟨k + 1, hlt, by go_num, by rw [HST.out], hB1⟩
        case measure => simp [intOf]; omega
      · have hkk : k = X.length := by omega
        subst hkk
        have hki : ¬ ((X.length : Int) < X.length) := by omega
        rw [List.take_length, HCNT.out] at hr0 ⊢
        have hB3 := hB
        obtain ⟨cf, hcf⟩ : ∃ cf : Nat, (difN la lb).length = cf := ⟨_, rfl⟩
        have hcf0 : (cf : Int) ≤ 4096 := by
          have h1 := dif_len (l' := lb) HTWO.out.ta
          have h2 := HTWO.out.ta.n2
          have h3 : leavesN l.length nn ≤ 4096 := by have := (HTWO.out.ta.at_ 0 hne).2.2.2; have := (HTWO.out.ta.at_ 0 hne).1; exact (HTWO.out.ta.at_ 0 hne).2.2.2
          omega
        rw [hcf] at hr0 ⊢
        have HCF := Lib.hid hcf
        clear hcf
        go_wp2_with fail
        go_loopw [14, 72] (fun f i wr => ∃ k : Nat, k ≤ la.length ∧ i = .int .i64 k ∧ f = .int .i64 (lsum (la.take k) : Nat) ∧ Below w3.heap.size w3 wr) (fun _ i _ => la.length - (intOf i).toNat)
        case atStart => exact ⟨0, by omega, rfl, rfl, hB3⟩
        case round =>
          obtain ⟨wo2, rfl⟩ : ∃ wo2 : World, wo2 = wr := ⟨_, rfl⟩
          obtain ⟨k, hk, rfl, rfl, hB2⟩ := hrel
          have hb2o2 : Below (n7 + 2) W2 wo2 := hb23.trans (hB2.mono (by omega))
          obtain ⟨hns, hnl⟩ := lsum_nsum HTWO.out.ta k hk
          by_cases hlt : k < la.length
          · obtain ⟨b, off, D9, c9, rfl, hb, g0, hD, hd1, hd2⟩ := (HW.out wo2 hb2o2).2.1.sl hlt
            have hst := Lib.hid (lsum_take hlt)
            have hrl : la[k].length ≤ 4096 := by have := (HTWO.out.ta.at_ k hlt).2.2.2; rw [(HTWO.out.ta.at_ k hlt).1]; exact this
            obtain ⟨q, hq⟩ : ∃ q, la[k].length = q := ⟨_, rfl⟩
            rw [hq] at g0 hrl hst
            obtain ⟨ls, hls⟩ : ∃ ls, lsum (la.take k) = ls := ⟨_, rfl⟩
            rw [hls] at hnl hst ⊢
            have hki : (k : Int) < la.length := by omega
            have hnn0 : (0 : Int) ≤ k := by omega
            clear hD hd1 hd2 hq hls hns
            go_wp2_with fail
            go_roundw
            case rel => exact ⟨k + 1, hlt, by go_num, by rw [hst.out]; go_num, hB2⟩
            case measure => simp [intOf]; omega
          · have hkk : k = la.length := by omega
            subst hkk
            have hki : ¬ ((la.length : Int) < la.length) := by omega
            rw [List.take_length] at hns hnl ⊢
            have hsnf := bounded_law HTWO.out.ta HTWO.out.tb
            have hsnn := sent_nodes HTWO.out.ta HTWO.out.tb
            have hsnp := sentN_pos la lb (la.length - 1) [0] (by simp)
            have hse : sentT ((l.length : Int), (nn : Int), la) ((l.length : Int), (nn : Int), lb) = (sentN la lb (la.length - 1) [0] : Int) := by unfold sentT; rw [if_pos HTWO.out.err]
            rw [HSN.out] at hse
            rw [HCF.out, ← hse] at hsnf
            obtain ⟨hf1, hf2, hf3⟩ := hsnf
            obtain ⟨most, hmost⟩ : ∃ most, boundV (l.length : Int) (nn : Int) (cf : Int) = most := ⟨_, rfl⟩
            obtain ⟨nds, hnds⟩ : ∃ nds, lsum la = nds := ⟨_, rfl⟩
            rw [hmost] at hf1 hf3
            rw [hnds] at hns hnl ⊢
            have hs1 : ¬ sn < 1 := by omega
            have hs2 : ¬ most < sn := by omega
            have hs3 : ¬ (nds : Int) < sn := by omega
            have HBD1 := Lib.hid (bound_any (l.length : Int) (nn : Int) (cf : Int) most 0 wo2 hmost hf2)
            obtain ⟨⟨p0, p1, p2, _⟩, _⟩ := And.intro (blk3 (HW.out wo2 hb2o2).1.1) trivial
            have HF3 := Lib.hid hf3
            clear hmost hnds hns hse hf2 hf3 hsnn
            go_wp2_with fail
            refine HBD1.out.mono ?_
            rintro e w8 ⟨rfl, rfl⟩
            by_cases hc0 : cf = 0
            · subst hc0
              go_wp2_with fail
              refine (awake44_any w8).mono ?_
              rintro e wz ⟨rfl, hbz⟩
              go_wp2_with fail
              go_ret
              exact ⟨by first | trivial | rfl | simp, ((HW.out w8 hb2o2).2.2.2).trans (hbz.mono (((HW.out w8 hb2o2).2.2.2)).size)⟩
            · obtain ⟨cp, rfl⟩ : ∃ cp, cf = cp + 1 := ⟨cf - 1, by omega⟩
              obtain ⟨hg1, hg2⟩ := HF3.out cp rfl
              obtain ⟨less, hless⟩ : ∃ less, boundV (l.length : Int) (nn : Int) (cp : Int) = less := ⟨_, rfl⟩
              rw [hless] at hg2
              have HBD2 := Lib.hid (bound_any (l.length : Int) (nn : Int) (cp : Int) less 0 w8 hless hg1)
              have hs4 : ¬ most < less := by omega
              clear hless hg1
              go_wp2_with fail
              refine HBD2.out.mono ?_
              rintro e w9 ⟨rfl, rfl⟩
              go_wp2_with fail
              refine (awake44_any w9).mono ?_
              rintro e wz ⟨rfl, hbz⟩
              go_wp2_with fail
              go_ret
              exact ⟨by first | trivial | rfl | simp, ((HW.out w9 hb2o2).2.2.2).trans (hbz.mono (((HW.out w9 hb2o2).2.2.2)).size)⟩
end Go.Proofs.Ytjehedfdikdfpaa
namespace Go.Proofs.Ytjehedfdikdfpaa
open Go.RowKit Go.ChangeShapes Go.WideShapes Go.ChangeAt

theorem own : ownKnob Try.prog.godebug = none := by kernel_rfl
theorem laidOut : laidOutB Try.prog = true := by kernel_rfl
theorem op_sec : Opens Try.prog 80 encSec := opens_sec Try.underlying80 (by kernel_rfl) Try.underlying5 (by kernel_rfl)
theorem op_secs : Opens Try.prog 69 (encSl encSec) := opens_slice Try.underlying69 (by kernel_rfl) op_sec (by decide)
end Go.Proofs.Ytjehedfdikdfpaa
