/-
  The law of merged policies: the walk.
-/
import Derived.Test.YtnkmklnlaepdeaaYx
set_option linter.unusedVariables false
set_option linter.unusedSimpArgs false
set_option linter.unusedSectionVars false
set_option linter.unnecessarySimpa false
namespace Go.Proofs.Ytnkmklnlaepdeaa
open Go.RowKit Go.Shelf
attribute [local go_sem] Oper.semAt_some
theorem Calls.at_world {P : Program} {f : FuncId} {args : Array Value} {R : Ending → World → Prop} (w : World) (h : Calls P f args w R) : Calls P f args w R := h

set_option maxHeartbeats 4000000 in
set_option maxRecDepth 100000 in
theorem runion_any (A B At : Option Addr) (ca cb na nb ct nt : Nat) (wa wb now : Int) (la lb : List Rule) (ts : List Int) (w : World) (hna : la.length = na) (hnb : lb.length = nb) (hnt : ts.length = nt) (h1 : SlAt encExt w (Bl w.heap.size) A la) (h2 : SlAt encExt w (Bl w.heap.size) B lb) (h3 : SlAt encInt w (Bl w.heap.size) At ts) (hca : na ≤ ca ∧ ca ≤ maxLen) (hcb : nb ≤ cb ∧ cb ≤ maxLen) (hlt : nt ≤ 9223372036854775807) :
    Calls Try.prog 6 #[.agg #[.int .i64 wa, .slice A na ca, .int .i64 wb, .slice B nb cb], .slice At nt ct, .int .i64 now] w (LawRet w) := by
  subst hna hnb hnt
  have H1 := Lib.hid h1; have H2 := Lib.hid h2; have H3 := Lib.hid h3; clear h1 h2 h3
  have HCA := Lib.hid hca; have HCB := Lib.hid hcb
  have hla : la.length ≤ 9223372036854775807 := by unfold maxLen at hca; omega
  have hlb : lb.length ≤ 9223372036854775807 := by unfold maxLen at hcb; omega
  clear hca hcb
  obtain ⟨n0, hn0⟩ : ∃ n0, w.heap.size = n0 := ⟨_, rfl⟩
  obtain ⟨W0, hW0⟩ : ∃ W0, w.alloc (.cells #[.int .i64 wa, .slice A la.length ca, .int .i64 wb, .slice B lb.length cb] 39) = W0 := ⟨_, rfl⟩
  have hB0 : Below w.heap.size w W0 := by rw [← hW0]; exact ext_alloc (Below.refl _ _)
  have hr0 : W0.heap[n0]? = some (.cells #[.int .i64 wa, .slice A la.length ca, .int .i64 wb, .slice B lb.length cb] 39 (0, 0)) := by rw [← hW0, ← hn0]; exact heap_alloc_new _ _
  have HC : Hid (∀ W, Below W0.heap.size W0 W → (W.cell? ⟨n0, 0, none⟩ = some (.int .i64 wa) ∧ W.cell? ⟨n0, 1, none⟩ = some (.slice A la.length ca)) ∧ W.cell? ⟨n0, 2, none⟩ = some (.int .i64 wb) ∧ W.cell? ⟨n0, 3, none⟩ = some (.slice B lb.length cb)) := fun W hb => by
    have h := (hb.block n0 (Array.getElem?_eq_some_iff.1 hr0).1).trans hr0
    exact ⟨⟨cell_of_row W _ 0 _ _ _ h, cell_of_row W _ 1 _ _ _ h⟩, cell_of_row W _ 2 _ _ _ h, cell_of_row W _ 3 _ _ _ h⟩
  obtain ⟨⟨p0, p1⟩, p2, p3⟩ := HC.out W0 (Below.refl _ _)
  have hp3 : W0.cell? ⟨n0, 2 + 1, none⟩ = some (.slice B lb.length cb) := p3
  have HW0 := Lib.hid hW0
  clear hr0 hW0
  go_enter Try.func6, Try.ntmps6
  go_upto_region 1 with (fail)
  try rw [hn0]
  rw [HW0.out]
  by_cases h40 : 40 < la.length
  · have h40' : (40 : Int) < la.length := by omega
    go_wp2_with fail
    refine (awake38_any _).mono ?_
    rintro e wz ⟨rfl, hbz⟩
    go_wp2
    go_ret
    exact ⟨rfl, ext_trans hB0 hbz⟩
  have h40' : ¬ (40 : Int) < la.length := by omega
  by_cases h41 : 40 < lb.length
  · have h41' : (40 : Int) < lb.length := by omega
    go_wp2_with fail
    refine (awake38_any _).mono ?_
    rintro e wz ⟨rfl, hbz⟩
    go_wp2
    go_ret
    exact ⟨rfl, ext_trans hB0 hbz⟩
  have h41' : ¬ (40 : Int) < lb.length := by omega
  by_cases h60 : 60 < ts.length
  · have h60' : (60 : Int) < ts.length := by omega
    go_wp2_with fail
    refine (awake38_any _).mono ?_
    rintro e wz ⟨rfl, hbz⟩
    go_wp2
    go_ret
    exact ⟨rfl, ext_trans hB0 hbz⟩
  have h60' : ¬ (60 : Int) < ts.length := by omega
  obtain ⟨⟨pw, pl⟩, hp⟩ : ∃ p, mergeP (wa, la) (wb, lb) = p := ⟨_, rfl⟩
  obtain ⟨x, hx⟩ : ∃ x, mergeE (wa, la) (wb, lb) = x := ⟨_, rfl⟩
  have hpl : pl.length ≤ 8 := by have := mergeP_len8 (wa, la) (wb, lb); rw [hp] at this; exact this
  have K1 := Lib.hid (merge_any A B ca cb la.length lb.length wa wb la lb W0 rfl rfl (H1.out.fwd hB0) (H2.out.fwd hB0) HCA.out HCB.out)
  rw [hp, hx] at K1
  have HP := Lib.hid hp
  have HX := Lib.hid hx
  clear hp hx
  go_wp2_with fail
  refine K1.out.mono ?_
  rintro e w1 he
  obtain ⟨A1, c1, rfl, hs1, hb1⟩ := he.out
  obtain ⟨W1, hW1⟩ : ∃ W, w1.alloc (.cells #[.int .i64 pw, .slice A1 pl.length c1] 24) = W := ⟨_, rfl⟩
  obtain ⟨m1, hm1⟩ : ∃ m, w1.heap.size = m := ⟨_, rfl⟩
  have hbw1 : Below w1.heap.size w1 W1 := by rw [← hW1]; exact ext_alloc (Below.refl _ _)
  have hr1 : W1.heap[m1]? = some (.cells #[.int .i64 pw, .slice A1 pl.length c1] 24 (0, 0)) := by rw [← hW1, ← hm1]; exact heap_alloc_new _ _
  have hx1 : Below W0.heap.size W0 W1 := ext_trans hb1 hbw1
  have hB1 : Below w.heap.size w W1 := ext_trans hB0 hx1
  have HS1 := Lib.hid (hs1.2.2.fwd hbw1)
  have hm1l : m1 < W1.heap.size := (Array.getElem?_eq_some_iff.1 hr1).1
  clear he hs1 K1 p0 p1 p2 p3 hp3
  by_cases hx0 : x = 0
  case neg =>
    have hx0' : (x != 0) = true := by simp [hx0]
    clear hx0
    go_wp2_with fail
    refine (awake38_any _).mono ?_
    rintro e wz ⟨rfl, hbz⟩
    go_wp2
    go_ret
    exact ⟨rfl, ext_trans hB1 hbz⟩
  have hx0' : (x != 0) = false := by simp [hx0]
  have HX0 : Hid (mergeE (wa, la) (wb, lb) = 0) := HX.out.trans hx0
  clear hx0 HX
  obtain ⟨ra, hra⟩ : ∃ r, Hid (keepL (wa, la) ts now = r) := ⟨_, Lib.hid rfl⟩
  obtain ⟨rb, hrb⟩ : ∃ r, Hid (keepL (wb, lb) ts now = r) := ⟨_, Lib.hid rfl⟩
  obtain ⟨rc, hrc⟩ : ∃ r, Hid (keepL (pw, pl) ts now = r) := ⟨_, Lib.hid rfl⟩
  have HUN : Hid (∀ i, i ∈ rc ↔ (i ∈ ra ∨ i ∈ rb)) := fun i => by
    have h := union_law HX0.out ts now i
    rw [HP.out, hra.out, hrb.out, hrc.out] at h
    exact h
  have hlr : (intsN ra).length ≤ 60 ∧ (intsN rb).length ≤ 60 ∧ (intsN rc).length ≤ 60 := by
    have h1 := keepL_len (wa, la) ts now
    have h2 := keepL_len (wb, lb) ts now
    have h3 := keepL_len (pw, pl) ts now
    rw [hra.out] at h1; rw [hrb.out] at h2; rw [hrc.out] at h3
    simp only [intsN, List.length_map]; omega
  have HQ : Hid (∀ W, Below W1.heap.size W1 W → ((W.cell? ⟨n0, 0, none⟩ = some (.int .i64 wa) ∧ W.cell? ⟨n0, 1, none⟩ = some (.slice A la.length ca)) ∧ W.cell? ⟨n0, 2, none⟩ = some (.int .i64 wb) ∧ W.cell? ⟨n0, 3, none⟩ = some (.slice B lb.length cb)) ∧ W.cell? ⟨m1, 0, none⟩ = some (.int .i64 pw) ∧ W.cell? ⟨m1, 1, none⟩ = some (.slice A1 pl.length c1)) := fun W hb => by
    obtain ⟨a, b, _⟩ := blk2 ((hb.block m1 hm1l).trans hr1)
    have h := HC.out W (ext_trans hx1 hb)
    exact ⟨h, a, b⟩
  have K1 := Lib.hid (fun W (hb : Below W1.heap.size W1 W) => keep_any A At ca ct ts.length la.length wa now la ts ra W rfl rfl hra.out (H1.out.fwd (ext_trans hB1 hb)) (H3.out.fwd (ext_trans hB1 hb)) hla hlt)
  have K2 := Lib.hid (fun W (hb : Below W1.heap.size W1 W) => keep_any B At cb ct ts.length lb.length wb now lb ts rb W rfl rfl hrb.out (H2.out.fwd (ext_trans hB1 hb)) (H3.out.fwd (ext_trans hB1 hb)) hlb hlt)
  have K3 := Lib.hid (fun W (hb : Below W1.heap.size W1 W) => keep_any A1 At c1 ct ts.length pl.length pw now pl ts rc W rfl rfl hrc.out (HS1.out.fwd hb) (H3.out.fwd (ext_trans hB1 hb)) (by omega) hlt)
  have hc0 := HQ.out W1.drew (Below.refl _ _).drew
  have hx10 : Below W1.heap.size W1 W1.drew := (Below.refl _ _).drew
  go_upto_region 6 with (fail)
  clear hr1 hW1
  go_region_held3 (fun W => ((W.cell? ⟨n0, 0, none⟩ = some (.int .i64 wa) ∧ W.cell? ⟨n0, 1, none⟩ = some (.slice A la.length ca)) ∧ W.cell? ⟨n0, 2, none⟩ = some (.int .i64 wb) ∧ W.cell? ⟨n0, 3, none⟩ = some (.slice B lb.length cb)) ∧ W.cell? ⟨m1, 0, none⟩ = some (.int .i64 pw) ∧ W.cell? ⟨m1, 1, none⟩ = some (.slice A1 pl.length c1)) (first | exact hc0 | exact HQ.out _ hx4 | exact HQ.out _ hx3 | exact HQ.out _ hx2 | go_keep) (first | (go_at_call 16; (with_reducible refine Calls.at_world w3 ?_); refine (K3.out w3 hx3).mono ?_; rintro e w4 ⟨Ac, cc, rfl, _, _, hs4, hb4⟩; have hx4 : Below W1.heap.size W1 w4 := ext_trans hx3 hb4) | (go_at_call 16; (with_reducible refine Calls.at_world w2 ?_); refine (K2.out w2 hx2).mono ?_; rintro e w3 ⟨Ab, cb', rfl, _, _, hs3, hb3⟩; have hx3 : Below W1.heap.size W1 w3 := ext_trans hx2 hb3) | (go_at_call 16; (with_reducible refine Calls.at_world W1.drew ?_); refine (K1.out W1.drew hx10).mono ?_; rintro e w2 ⟨Aa, ca', rfl, _, _, hs2, hb2⟩; have hx2 : Below W1.heap.size W1 w2 := ext_trans hx10 hb2))
  have HA := Lib.hid (show SlAt encInt w4 (Bl w4.heap.size) Aa (intsN ra) from ((hs2.more (fun g hg => hg.2)).fwd hb3).fwd hb4)
  have HB := Lib.hid (show SlAt encInt w4 (Bl w4.heap.size) Ab (intsN rb) from (hs3.more (fun g hg => hg.2)).fwd hb4)
  have HCc := Lib.hid (show SlAt encInt w4 (Bl w4.heap.size) Ac (intsN rc) from hs4.more (fun g hg => hg.2))
  have hB4 : Below w.heap.size w w4 := ext_trans hB1 hx4
  clear hs2 hs3 hs4 hb2 hb3 hb4 hc0 K1 K2 K3
  go_wp2_with fail
  go_loopw [58] (fun i wr => ∃ k : Nat, k ≤ ts.length ∧ i = .int .i64 k ∧ wr = w4) (fun i _ => ts.length - (intOf i).toNat)
  case atStart => exact ⟨0, by omega, rfl, rfl⟩
  case round =>
    obtain ⟨k, hk, rfl, rfl⟩ := hrel
    by_cases hkt : k < ts.length
    · have hkI : (k : Int) < ts.length := by omega
      obtain ⟨qa, hqa⟩ : ∃ q, Hid (decide (k ∈ ra) = q) := ⟨_, Lib.hid rfl⟩
      obtain ⟨qb, hqb⟩ : ∃ q, Hid (decide (k ∈ rb) = q) := ⟨_, Lib.hid rfl⟩
      have HQC : Hid ((intsN rc).contains (k : Int) = (qa || qb)) := by
        rw [Hid, intsN_has38, ← hqa.out, ← hqb.out, ← Bool.decide_or, decide_eq_decide]
        exact HUN.out k
      have HK1 := Lib.hid (containsI_any Ac cc (intsN rc).length (intsN rc) (k : Int) (qa || qb) wr rfl HCc.out (by omega) HQC.out)
      have HK2 := Lib.hid (containsI_any Aa ca' (intsN ra).length (intsN ra) (k : Int) qa wr rfl HA.out (by omega) ((intsN_has38 ra k).trans hqa.out))
      have HK3 := Lib.hid (containsI_any Ab cb' (intsN rb).length (intsN rb) (k : Int) qb wr rfl HB.out (by omega) ((intsN_has38 rb k).trans hqb.out))
      go_wp2_with fail
      refine HK1.out.mono ?_
      rintro e w5 ⟨rfl, rfl⟩
      go_wp2_with fail
      refine HK2.out.mono ?_
      rintro e w6 ⟨rfl, rfl⟩
      cases qa with
      | true =>
        go_wp2_with fail
        go_roundw
        case rel => exact ⟨k + 1, hkt, by go_num, by first | rfl | trivial⟩
        case measure => simp [intOf]; omega
      | false =>
        go_wp2_with fail
        refine HK3.out.mono ?_
        rintro e w7 ⟨rfl, rfl⟩
        have hbb : ((false || qb) != qb) = false := by cases qb <;> rfl
        go_wp2_with fail
        go_roundw
        case rel => exact ⟨k + 1, hkt, by go_num, by first | rfl | trivial⟩
        case measure => simp [intOf]; omega
    · have hkI : ¬ (k : Int) < ts.length := by omega
      go_wp2_with fail
      refine (awake38_any _).mono ?_
      rintro e wz ⟨rfl, hbz⟩
      go_wp2
      go_ret
      exact ⟨rfl, ext_trans hB4 hbz⟩
end Go.Proofs.Ytnkmklnlaepdeaa
