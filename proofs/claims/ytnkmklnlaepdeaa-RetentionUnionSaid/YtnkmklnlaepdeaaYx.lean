/-
  The laws of Merge and of merged policies: the walks.
-/
import Derived.Test.YtnkmklnlaepdeaaYw
set_option linter.unusedVariables false
set_option linter.unusedSimpArgs false
set_option linter.unusedSectionVars false
set_option linter.unnecessarySimpa false
namespace Go.Proofs.Ytnkmklnlaepdeaa
open Go.RowKit Go.Shelf
attribute [local go_sem] Oper.semAt_some

theorem PolRet.out {pw x : Int} {pl : List Rule} {w w' : World} {e : Ending} (h : PolRet (pw, pl) x w e w') : ∃ A c, e = .returned (.tuple #[.agg #[.int .i64 pw, .slice A pl.length c], .int .i64 x]) ∧ (pl.length ≤ c ∧ c ≤ maxLen ∧ SlAt encExt w' (Bl w'.heap.size) A pl) ∧ Below w.heap.size w w' := by
  obtain ⟨A, c, he, h1, h2, h3, h4⟩ := h
  exact ⟨A, c, he, ⟨h1, h2, h3.more (fun g hg => hg.2)⟩, h4⟩
theorem mergeP_len8 (a b : Pol) : (mergeP a b).2.length ≤ 8 := by
  unfold mergeP
  split
  · rename_i h
    unfold mergeE at h
    split at h
    · rename_i h1; exact absurd h h1
    · split at h
      · rename_i h1; exact absurd h h1
      · split at h
        · omega
        · simp only; omega
  · simp [zPol]
set_option maxHeartbeats 4000000 in
set_option maxRecDepth 100000 in
theorem rmerges_any (A B : Option Addr) (ca cb na nb : Nat) (wa wb : Int) (la lb : List Rule) (w : World) (hna : la.length = na) (hnb : lb.length = nb) (h1 : SlAt encExt w (Bl w.heap.size) A la) (h2 : SlAt encExt w (Bl w.heap.size) B lb) (hca : na ≤ ca ∧ ca ≤ maxLen) (hcb : nb ≤ cb ∧ cb ≤ maxLen) :
    Calls Try.prog 5 #[.agg #[.int .i64 wa, .slice A na ca], .agg #[.int .i64 wb, .slice B nb cb]] w (LawRet w) := by
  subst hna hnb
  have H1 := Lib.hid h1; have H2 := Lib.hid h2; clear h1 h2
  have HCA := Lib.hid hca; have HCB := Lib.hid hcb
  have hla : la.length ≤ 9223372036854775807 := by unfold maxLen at hca; omega
  have hlb : lb.length ≤ 9223372036854775807 := by unfold maxLen at hcb; omega
  clear hca hcb
  obtain ⟨n0, hn0⟩ : ∃ n0, w.heap.size = n0 := ⟨_, rfl⟩
  obtain ⟨W0, hW0⟩ : ∃ W0, (w.alloc (.cells #[.int .i64 wa, .slice A la.length ca] 24)).alloc (.cells #[.int .i64 wb, .slice B lb.length cb] 24) = W0 := ⟨_, rfl⟩
  have hB0 : Below w.heap.size w W0 := by rw [← hW0]; exact ext_alloc (ext_alloc (Below.refl _ _))
  have hs0 : Hid (W0.heap.size = n0 + 2) := by rw [Hid, ← hW0, ← hn0]; simp
  have hr0 : W0.heap[n0]? = some (.cells #[.int .i64 wa, .slice A la.length ca] 24 (0, 0)) := by rw [← hW0, ← hn0]; exact (Below.heap_alloc _ _ _ (by simp)).trans (heap_alloc_new _ _)
  have hr1 : W0.heap[n0 + 1]? = some (.cells #[.int .i64 wb, .slice B lb.length cb] 24 (0, 0)) := by rw [← hW0, ← hn0]; exact heap_new2 _ _ _
  have HC : Hid (∀ W, Below W0.heap.size W0 W → (W.cell? ⟨n0, 0, none⟩ = some (.int .i64 wa) ∧ W.cell? ⟨n0, 1, none⟩ = some (.slice A la.length ca)) ∧ W.cell? ⟨n0 + 1, 0, none⟩ = some (.int .i64 wb) ∧ W.cell? ⟨n0 + 1, 1, none⟩ = some (.slice B lb.length cb)) := fun W hb => by
    have := hs0.out
    obtain ⟨a, b, _⟩ := blk2 ((hb.block n0 (by omega)).trans hr0)
    obtain ⟨a', b', _⟩ := blk2 ((hb.block (n0 + 1) (by omega)).trans hr1)
    exact ⟨⟨a, b⟩, a', b'⟩
  obtain ⟨⟨p0, p1⟩, p2, p3⟩ := HC.out W0 (Below.refl _ _)
  have HW0 := Lib.hid hW0
  clear hr0 hr1 hW0
  go_enter Try.func5, Try.ntmps5
  go_upto_region 1 with (fail)
  try rw [hn0]
  rw [HW0.out]
  by_cases h40 : 40 < la.length
  · have h40' : (40 : Int) < la.length := by omega
    go_wp2_with fail
    refine (awake38_any _).mono ?_
    rintro e wz ⟨rfl, hbz⟩
    go_wp2
    go_ret
    exact ⟨rfl, ext_trans hB0 hbz⟩
  have h40' : ¬ (40 : Int) < la.length := by omega
  by_cases h41 : 40 < lb.length
  · have h41' : (40 : Int) < lb.length := by omega
    go_wp2_with fail
    refine (awake38_any _).mono ?_
    rintro e wz ⟨rfl, hbz⟩
    go_wp2
    go_ret
    exact ⟨rfl, ext_trans hB0 hbz⟩
  have h41' : ¬ (40 : Int) < lb.length := by omega
  obtain ⟨⟨pw, pl⟩, hp⟩ : ∃ p, mergeP (wa, la) (wb, lb) = p := ⟨_, rfl⟩
  obtain ⟨x, hx⟩ : ∃ x, mergeE (wa, la) (wb, lb) = x := ⟨_, rfl⟩
  have hpl : pl.length ≤ 8 := by have := mergeP_len8 (wa, la) (wb, lb); rw [hp] at this; exact this
  have K1 := Lib.hid (merge_any A B ca cb la.length lb.length wa wb la lb W0 rfl rfl (H1.out.fwd hB0) (H2.out.fwd hB0) HCA.out HCB.out)
  have K2 := Lib.hid (fun W (hb : Below W0.heap.size W0 W) => refMerge_any A B ca cb la.length lb.length wa wb la lb W rfl rfl (H1.out.fwd (ext_trans hB0 hb)) (H2.out.fwd (ext_trans hB0 hb)) HCA.out HCB.out)
  rw [hp, hx] at K1 K2
  clear h40 h41 hp hx
  go_wp2_with fail
  refine K1.out.mono ?_
  rintro e w1 he
  obtain ⟨A1, c1, rfl, hs1, hb1⟩ := he.out
  obtain ⟨W1, hW1⟩ : ∃ W, w1.alloc (.cells #[.int .i64 pw, .slice A1 pl.length c1] 24) = W := ⟨_, rfl⟩
  obtain ⟨m1, hm1⟩ : ∃ m, w1.heap.size = m := ⟨_, rfl⟩
  have hbw1 : Below w1.heap.size w1 W1 := by rw [← hW1]; exact ext_alloc (Below.refl _ _)
  have hr1 : W1.heap[m1]? = some (.cells #[.int .i64 pw, .slice A1 pl.length c1] 24 (0, 0)) := by rw [← hW1, ← hm1]; exact heap_alloc_new _ _
  have hx1 : Below W0.heap.size W0 W1 := ext_trans hb1 hbw1
  have HS1 := Lib.hid (hs1.2.2.fwd hbw1)
  have K2' := Lib.hid (K2.out W1 hx1)
  clear he hs1 K1 K2 p0 p1 p2 p3
  obtain ⟨⟨p0, p1⟩, p2, p3⟩ := HC.out W1 hx1
  go_wp2_with fail
  refine K2'.out.mono ?_
  rintro e w2 he
  obtain ⟨A2, c2, rfl, hs2, hb2⟩ := he.out
  obtain ⟨W2, hW2⟩ : ∃ W, w2.alloc (.cells #[.int .i64 pw, .slice A2 pl.length c2] 24) = W := ⟨_, rfl⟩
  obtain ⟨m2, hm2⟩ : ∃ m, w2.heap.size = m := ⟨_, rfl⟩
  have hbw2 : Below w2.heap.size w2 W2 := by rw [← hW2]; exact ext_alloc (Below.refl _ _)
  have hr2 : W2.heap[m2]? = some (.cells #[.int .i64 pw, .slice A2 pl.length c2] 24 (0, 0)) := by rw [← hW2, ← hm2]; exact heap_alloc_new _ _
  have hx2 : Below W1.heap.size W1 W2 := ext_trans hb2 hbw2
  have hr1' := (hx2.block m1 (Array.getElem?_eq_some_iff.1 hr1).1).trans hr1
  have HSM := Lib.hid (polSame_true A1 A2 c1 c2 pl.length pw pl W2 rfl (HS1.out.fwd hx2) (hs2.2.2.fwd hbw2) (by omega))
  clear he hs2 K2' p0 p1 p2 p3 hr1
  obtain ⟨q0, q1, _⟩ := blk2 hr1'
  obtain ⟨q2, q3, _⟩ := blk2 hr2
  have hxx : (x == x) = true := by simp
  go_wp2_with fail
  refine HSM.out.mono ?_
  rintro e w3 ⟨rfl, hb3⟩
  have hB3 : Below w.heap.size w w3 := ext_trans hB0 (ext_trans hx1 (ext_trans hx2 hb3))
  clear q0 q1 q2 q3 HSM hr1' hr2
  go_wp2_with fail
  refine (awake38_any _).mono ?_
  rintro e wz ⟨rfl, hbz⟩
  go_wp2
  go_ret
  exact ⟨rfl, ext_trans hB3 hbz⟩
end Go.Proofs.Ytnkmklnlaepdeaa
