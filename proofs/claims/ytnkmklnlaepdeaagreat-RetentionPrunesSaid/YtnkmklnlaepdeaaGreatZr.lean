/-
  The reference's Prune of retention: the walk.
  The law of Prune: the walk.
-/
import Derived.Test.YtnkmklnlaepdeaaGreatY3
import Derived.Test.YtnkmklnlaepdeaaGreatY2
import Derived.Test.YtnkmklnlaepdeaaGreatKw
import Derived.Test.YtnkmklnlaepdeaaGreatSz
import Derived.Test.YtnkmklnlaepdeaaGreatRm
import Derived.Test.YtnkmklnlaepdeaaGreatYv
set_option linter.unusedVariables false
set_option linter.unusedSimpArgs false
set_option linter.unusedSectionVars false
set_option linter.unnecessarySimpa false
namespace Go.Proofs.YtnkmklnlaepdeaaGreat
open Go.RowKit Go.Shelf
attribute [local go_sem] Oper.semAt_some

set_option maxHeartbeats 1000000 in
theorem has15_any (A : Option Addr) (c n : Nat) (l : List Int) (v : Int) (q : Bool) (w : World) (hn : l.length = n) (h1 : SlAt encInt w (Bl w.heap.size) A l) (hl : n ≤ 9223372036854775807) (hq : l.contains v = q) :
    Calls Tryz.prog 29 #[.slice A n c, .int .i64 v] w fun e w' => e = .returned (.bool q) ∧ Drew w w' := by
  subst hn
  have HQ := Lib.hid hq; clear hq
  go_enter Tryz.func29, Tryz.ntmps29
  go_wp2
  go_loopw [5] (fun i wr => ∃ k : Nat, k ≤ l.length ∧ i = .int .i64 k ∧ Drew w wr ∧ Hid (∀ x ∈ l.take k, x ≠ v)) (fun i _ => l.length - (intOf i).toNat)
  case atStart => exact ⟨0, by omega, rfl, Drew.refl _, by simp [Hid]⟩
  case round =>
    obtain ⟨wo, rfl⟩ : ∃ wo : World, wo = wr := ⟨_, rfl⟩
    obtain ⟨k, hk, rfl, hd, hz⟩ := hrel
    replace h1 := h1.drew hd
    by_cases hlt : k < l.length
    · obtain ⟨b, off, rfl, _, g0, _⟩ := h1.int hlt
      have hki : (k : Int) < l.length := by omega
      have hnn : (0 : Int) ≤ k := by omega
      obtain ⟨x, hx⟩ : ∃ x, l[k] = x := ⟨_, rfl⟩
      rw [hx] at g0
      have HX := Lib.hid hx
      clear hx
      by_cases hxv : x = v
      · have hxv' : (x == v) = true := by simp [hxv]
        have hE : Hid (true = q) := by
          rw [Hid, ← HQ.out, eq_comm, List.contains_iff_mem, ← hxv, ← HX.out]; exact List.getElem_mem hlt
        clear hxv
        go_wp2
        go_ret
        exact ⟨ret_bool hE.out, hd⟩
      · have hxv' : (x == v) = false := by simp [hxv]
        have hZ : Hid (∀ x ∈ l.take (k + 1), x ≠ v) := by
          intro y hy
          rw [List.take_succ_eq_append_getElem hlt] at hy
          rcases List.mem_append.1 hy with hy | hy
          · exact hz.out y hy
          · rw [List.mem_singleton.1 hy, HX.out]; exact hxv
        clear hxv
        go_wp2
        go_roundw
        case rel => exact ⟨k + 1, hlt, by go_num, hd, hZ.out⟩
        case measure => simp [intOf]; omega
    · have hkI : ¬ (k : Int) < l.length := by omega
      have hE : Hid (false = q) := by
        have h := hz.out
        rw [List.take_of_length_le (by omega)] at h
        rw [Hid, ← HQ.out, eq_comm]
        cases hc : l.contains v with
        | false => rfl
        | true => exact absurd rfl (h v (List.contains_iff_mem.1 hc))
      go_wp2
      go_ret
      exact ⟨ret_bool hE.out, hd⟩
theorem has_keep {p : Pol} {ts : List Int} {now : Int} {r : List Nat} (hr : keepN p ts now = r) {i : Nat} (hi : i < ts.length) : (intsN r).contains (i : Int) = keptB p ts now i := by
  subst hr
  rw [Bool.eq_iff_iff, List.contains_iff_mem]
  unfold intsN
  rw [List.mem_map]
  constructor
  · rintro ⟨j, hj, h⟩
    have : j = i := by omega
    rw [← this]; exact (mem_keepN.1 hj).2
  · exact fun h => ⟨i, mem_keepN.2 ⟨hi, h⟩, rfl⟩
theorem keepL_len38 (p : Pol) (ts : List Int) (now : Int) : (keepL p ts now).length ≤ ts.length := by
  unfold keepL keepN
  split
  · have := List.length_filter_le (keptB p ts now) (List.range ts.length); simpa using this
  · simp
set_option maxHeartbeats 4000000 in
set_option maxRecDepth 100000 in
theorem refPrune_any (Ap A A2 Ag : Option Addr) (cp c c2 cg np n m ng : Nat) (nw now : Int) (l : List Rule) (im : Img) (sl : List Snp) (pin : List Int) (w : World) (hnp : l.length = np) (hn : im.length = n) (hm : sl.length = m) (hng : pin.length = ng)
    (h1 : SlAt encExt w (Bl w.heap.size) Ap l) (h2 : SlAt (encSl encSec) w (Bl w.heap.size) A im) (h3 : SlAt encSnp w (Bl w.heap.size) A2 sl) (h4 : SlAt encInt w (Bl w.heap.size) Ag pin) (hL : SnLim im sl) (hsv : ∀ x ∈ sl, x.2.2.length ≤ 50000)
    (hnpl : np ≤ 9223372036854775807) (hngl : ng ≤ 9223372036854775807) (hc : n ≤ c ∧ c ≤ maxLen) (hc2 : m ≤ c2 ∧ c2 ≤ maxLen) :
    Calls Tryz.prog 7 #[.agg #[.int .i64 nw, .slice Ap np cp], .agg #[.slice A n c, .slice A2 m c2], .slice Ag ng cg, .int .i64 now] w (PruneRet (pruneS (nw, l) (im, sl) pin now) (goneS (nw, l) (im, sl) pin now) (pruneE (nw, l) (im, sl) now) w) := by
  subst hnp hn hm hng
  obtain ⟨n0, hn0⟩ : ∃ n0, w.heap.size = n0 := ⟨_, rfl⟩
  rw [hn0] at h1 h2 h3 h4
  have H1 : Hid (∀ w', Below n0 w w' → SlAt encExt w' (Bl n0) Ap l) := fun w' hb => h1.below hb
  have H2 : Hid (∀ w', Below n0 w w' → SlAt (encSl encSec) w' (Bl n0) A im) := fun w' hb => h2.below hb
  have H3 : Hid (∀ w', Below n0 w w' → SlAt encSnp w' (Bl n0) A2 sl) := fun w' hb => h3.below hb
  have H4 : Hid (∀ w', Below n0 w w' → SlAt encInt w' (Bl n0) Ag pin) := fun w' hb => h4.below hb
  have HLM := Lib.hid hL
  have HSV := Lib.hid hsv
  have hl1 := hL.ims
  have hl2 := hL.its
  have HCC := Lib.hid (And.intro hc hc2)
  clear h1 h2 h3 h4 hL hsv hc hc2
  have HUP : Hid (∀ (W : World), Below n0 w W → ∀ g, Bl n0 g → Bl W.heap.size g) := fun W hb g hg => by have h := hb.size; have : g < n0 := hg; show g < W.heap.size; omega
  obtain ⟨W0, hW0⟩ : ∃ W0, ((w.alloc (.cells #[.int .i64 nw, .slice Ap l.length cp] 24)).alloc (.cells #[.slice A im.length c, .slice A2 sl.length c2] 29)).alloc (.cells #[.slice none 0 0, .slice none 0 0] 29) = W0 := ⟨_, rfl⟩
  have hB0 : Below n0 w W0 := by rw [← hW0, ← hn0]; exact ext_alloc (ext_alloc (ext_alloc (Below.refl _ _)))
  have hs0 : W0.heap.size = n0 + 3 := by rw [← hW0, ← hn0]; simp
  have hr0 : W0.heap[n0]? = some (.cells #[.int .i64 nw, .slice Ap l.length cp] 24 (0, 0)) := by
    rw [← hW0, ← hn0]; exact (Below.heap_alloc _ _ _ (by simp; omega)).trans ((Below.heap_alloc _ _ _ (by simp)).trans (heap_alloc_new _ _))
  have hr1 : W0.heap[n0 + 1]? = some (.cells #[.slice A im.length c, .slice A2 sl.length c2] 29 (0, 0)) := by
    rw [← hW0, ← hn0]
    have h := heap_alloc_new (w.alloc (.cells #[.int .i64 nw, .slice Ap l.length cp] 24)) (.cells #[.slice A im.length c, .slice A2 sl.length c2] 29)
    simp only [World.size_alloc] at h
    exact (Below.heap_alloc _ _ _ (by simp)).trans h
  have hr2 : W0.heap[n0 + 1 + 1]? = some (.cells #[.slice none 0 0, .slice none 0 0] 29 (0, 0)) := by
    rw [← hW0, ← hn0]
    have h := heap_alloc_new ((w.alloc (.cells #[.int .i64 nw, .slice Ap l.length cp] 24)).alloc (.cells #[.slice A im.length c, .slice A2 sl.length c2] 29)) (.cells #[.slice none 0 0, .slice none 0 0] 29)
    simp only [World.size_alloc] at h
    exact h
  have HBF : Hid (∀ W, Below (n0 + 3) W0 W → Below n0 w W) := fun W hb => hB0.trans (hb.mono (by omega))
  have HRP : Hid (∀ W, Below (n0 + 3) W0 W → (W.cell? ⟨n0, 0, none⟩ = some (.int .i64 nw) ∧ W.cell? ⟨n0, 1, none⟩ = some (.slice Ap l.length cp)) ∧ W.cell? ⟨n0 + 1, 0, none⟩ = some (.slice A im.length c) ∧ W.cell? ⟨n0 + 1, 1, none⟩ = some (.slice A2 sl.length c2)) := fun W hb => by
    obtain ⟨a, b, _⟩ := blk2 ((hb.block n0 (by omega)).trans hr0)
    obtain ⟨d, e, _⟩ := blk2 ((hb.block (n0 + 1) (by omega)).trans hr1)
    exact ⟨⟨a, b⟩, d, e⟩
  have HRZ : Hid (∀ W, Below (n0 + 3) W0 W → W.heap[n0 + 1 + 1]? = some (.cells #[.slice none 0 0, .slice none 0 0] 29 (0, 0))) := fun W hb => (hb.block (n0 + 1 + 1) (by omega)).trans hr2
  obtain ⟨pe, hpe⟩ : ∃ q, Hid (polE (nw, l) = q) := ⟨_, Lib.hid rfl⟩
  have HC := Lib.hid (refPolCheck_any Ap cp l.length nw l pe W0 rfl hpe.out ((H1.out W0 hB0).more (HUP.out W0 hB0)) hnpl)
  obtain ⟨⟨p0, p1⟩, p2, p3⟩ := HRP.out W0 (Below.refl _ _)
  clear hr0 hr1 hr2
  go_enter Tryz.func7, Tryz.ntmps7
  go_wp2_with fail
  refine HC.out.mono ?_
  rintro e w1 ⟨rfl, hb1⟩
  rw [hs0] at hb1
  clear HC hW0 p0 p1 p2 p3
  by_cases hx0 : pe = 0
  case neg =>
    have hx0' : (pe != 0) = true := by simp [hx0]
    have hrz := HRZ.out w1 hb1
    obtain ⟨z0, z1, zf⟩ := blk2 hrz
    have HX : Hid (pruneE (nw, l) (im, sl) now = pe ∧ pruneS (nw, l) (im, sl) pin now = zSns ∧ goneS (nw, l) (im, sl) pin now = []) := by
      have hm : pruneE (nw, l) (im, sl) now = pe := by unfold pruneE; rw [if_pos (by rw [hpe.out]; exact hx0), hpe.out]
      have hne : ¬ pruneE (nw, l) (im, sl) now = 0 := by rw [hm]; first | exact hx0 | decide
      exact ⟨hm, by unfold pruneS; rw [if_neg hne], by unfold goneS; rw [if_neg hne]⟩
    have hbz := HBF.out w1 hb1
    go_wp2_with fail
    have hz := blk2_set hrz (.slice none 0 0) (.slice none 0 0)
    have hbe := ((hbz.setCell (p := ⟨n0 + 1 + 1, 0, none⟩) (by show n0 ≤ n0 + 1 + 1; omega) (.slice none 0 0)).setCell (p := ⟨n0 + 1 + 1, 1, none⟩) (by show n0 ≤ n0 + 1 + 1; omega) (.slice none 0 0))
    have hse := trivial
    change bodyPost _ _ _ _ _ ((w1.setCell ⟨(n0 + 1 + 1), 0, none⟩ (.slice none 0 0)).setCell ⟨(n0 + 1 + 1), 1, none⟩ (.slice none 0 0))
    generalize (w1.setCell ⟨(n0 + 1 + 1), 0, none⟩ (.slice none 0 0)).setCell ⟨(n0 + 1 + 1), 1, none⟩ (.slice none 0 0) = W3 at hz hbe hse ⊢
    obtain ⟨z0, z1, _⟩ := blk2 hz
    refine bodyPost_ret (v := .tuple #[.agg #[(.slice none 0 0), (.slice none 0 0)], .slice none 0 0, .int .i64 pe]) ?_ rfl ?_
    · simp [results, Tryz.results7, Tryz.f7, go_sem, z0, z1]
    rw [HX.out.1, HX.out.2.1, HX.out.2.2]
    exact PruneRet.zero (by rw [hn0]; exact hbe)
  have hx0' : (pe != 0) = false := by simp [hx0]
  have HPE : Hid (polE (nw, l) = 0) := hpe.out.trans hx0
  clear hx0 hpe
  obtain ⟨se, hse⟩ : ∃ q, Hid (snE (im, sl) = q) := ⟨_, Lib.hid rfl⟩
  have hbw1 := HBF.out w1 hb1
  have HC := Lib.hid (refSnCheck_any A A2 c c2 im.length sl.length im sl se w1 rfl rfl hse.out ((H2.out w1 hbw1).more (HUP.out w1 hbw1)) ((H3.out w1 hbw1).more (HUP.out w1 hbw1)) hl1 (by omega))
  obtain ⟨⟨p0, p1⟩, p2, p3⟩ := HRP.out w1 hb1
  go_wp2_with fail
  refine HC.out.mono ?_
  rintro e w2 ⟨rfl, hb2⟩
  have hbb2 : Below (n0 + 3) W0 w2 := hb1.trans (hb2.mono (by have := hb1.size; omega))
  clear HC p0 p1 p2 p3
  by_cases hx0 : se = 0
  case neg =>
    have hx0' : (se != 0) = true := by simp [hx0]
    have hrz := HRZ.out w2 hbb2
    obtain ⟨z0, z1, zf⟩ := blk2 hrz
    have HX : Hid (pruneE (nw, l) (im, sl) now = se ∧ pruneS (nw, l) (im, sl) pin now = zSns ∧ goneS (nw, l) (im, sl) pin now = []) := by
      have hm : pruneE (nw, l) (im, sl) now = se := by unfold pruneE; rw [if_neg (by rw [HPE.out]; simp), if_pos (by rw [hse.out]; exact hx0), hse.out]
      have hne : ¬ pruneE (nw, l) (im, sl) now = 0 := by rw [hm]; first | exact hx0 | decide
      exact ⟨hm, by unfold pruneS; rw [if_neg hne], by unfold goneS; rw [if_neg hne]⟩
    have hbz := HBF.out w2 hbb2
    go_wp2_with fail
    have hz := blk2_set hrz (.slice none 0 0) (.slice none 0 0)
    have hbe := ((hbz.setCell (p := ⟨n0 + 1 + 1, 0, none⟩) (by show n0 ≤ n0 + 1 + 1; omega) (.slice none 0 0)).setCell (p := ⟨n0 + 1 + 1, 1, none⟩) (by show n0 ≤ n0 + 1 + 1; omega) (.slice none 0 0))
    have hse := trivial
    change bodyPost _ _ _ _ _ ((w2.setCell ⟨(n0 + 1 + 1), 0, none⟩ (.slice none 0 0)).setCell ⟨(n0 + 1 + 1), 1, none⟩ (.slice none 0 0))
    generalize (w2.setCell ⟨(n0 + 1 + 1), 0, none⟩ (.slice none 0 0)).setCell ⟨(n0 + 1 + 1), 1, none⟩ (.slice none 0 0) = W3 at hz hbe hse ⊢
    obtain ⟨z0, z1, _⟩ := blk2 hz
    refine bodyPost_ret (v := .tuple #[.agg #[(.slice none 0 0), (.slice none 0 0)], .slice none 0 0, .int .i64 se]) ?_ rfl ?_
    · simp [results, Tryz.results7, Tryz.f7, go_sem, z0, z1]
    rw [HX.out.1, HX.out.2.1, HX.out.2.2]
    exact PruneRet.zero (by rw [hn0]; exact hbe)
  have hx0' : (se != 0) = false := by simp [hx0]
  have HSE : Hid (snE (im, sl) = 0) := hse.out.trans hx0
  clear hx0 hse
  have hbw2 := HBF.out w2 hbb2
  obtain ⟨⟨p0, p1⟩, p2, p3⟩ := HRP.out w2 hbb2
  obtain ⟨n2, hn2⟩ : ∃ n2, w2.heap.size = n2 := ⟨_, rfl⟩
  have hn23 : n0 + 3 ≤ n2 := by have := hbb2.size; omega
  obtain ⟨qn, hqn⟩ : ∃ q, Hid (okT now = q) := ⟨_, Lib.hid rfl⟩
  have HI := Lib.hid (okT_any now w2 qn hqn.out)
  obtain ⟨qc, hqc⟩ : ∃ q, Hid (decide (okT now = false ∨ now < lastT sl) = q) := ⟨_, Lib.hid rfl⟩
  have h0 : Hid (sl.length = 0 → lastT sl = 0) := fun h => by rw [List.eq_nil_of_length_eq_zero h]; rfl
  have hlast : Hid (∀ j, sl.length = j + 1 → ∃ (hj : j < sl.length), sl[j].2.1 = lastT sl) := fun j hj => by
    have h1 : j < sl.length := by omega
    refine ⟨h1, ?_⟩
    have h2 := (lastN_take (l := sl) (k := j) (by omega)).2
    rw [← hj, List.take_length] at h2
    exact h2.symm
  go_upto_region 8 with (fail)
  go_cut [53] (fun e wx => e = .bool qc ∧ wx = w2)
  case first =>
    go_wp2_with fail
    refine HI.out.mono ?_
    rintro e w3 ⟨rfl, rfl⟩
    clear HI
    cases qn with
    | false =>
      have hE : Hid (true = qc) := by rw [Hid, ← hqc.out, decide_eq_true (Or.inl hqn.out)]
      go_wp2
      go_meet
      exact ⟨by rw [← hE.out], rfl⟩
    | true =>
      have hnw : Hid (0 ≤ now) := by
        have := hqn.out
        simp only [okT, decide_eq_true_eq] at this
        exact this.1
      by_cases hz : sl.length = 0
      · have hE : Hid (false = qc) := by
          rw [Hid, ← hqc.out, decide_eq_false]
          rintro (h | h)
          · rw [hqn.out] at h; cases h
          · rw [h0.out hz] at h; have := hnw.out; omega
        have hoz : ¬ (0 : Int) < sl.length := by omega
        clear hz
        go_wp2
        go_meet
        exact ⟨by rw [← hE.out], rfl⟩
      · obtain ⟨j, hj⟩ : ∃ j, sl.length = j + 1 := ⟨sl.length - 1, by omega⟩
        obtain ⟨hjo, hlj⟩ := hlast.out j hj
        obtain ⟨b, off, Dx, dx, rfl, hb, _, g1, _⟩ := (H3.out w3 hbw2).snp hjo
        rw [hlj] at g1
        obtain ⟨lt, hlt⟩ : ∃ lt, lastT sl = lt := ⟨_, rfl⟩
        rw [hlt] at g1
        have HLT := Lib.hid hlt
        have e5 : (sl.length : Int) - 1 = j := by omega
        have hoz : (0 : Int) < sl.length := by omega
        have hjI : (j : Int) < sl.length := by omega
        have hjb : (j : Int) ≤ 100000 := by omega
        have hw5 : IntKind.i64.wrap (j : Int) = j := IntWalk.i64_in _ (by omega)
        have hj0 : (0 : Int) ≤ j := by omega
        have HJ := Lib.hid hj
        clear hlj hlt hz hj
        by_cases hnl : now < lt
        · have hE : Hid (true = qc) := by rw [Hid, ← hqc.out, decide_eq_true (Or.inr (by rw [HLT.out]; exact hnl))]
          go_wp2
          go_meet
          exact ⟨by rw [← hE.out], rfl⟩
        · have hE : Hid (false = qc) := by
            rw [Hid, ← hqc.out, decide_eq_false]
            rintro (h | h)
            · rw [hqn.out] at h; cases h
            · rw [HLT.out] at h; exact hnl h
          go_wp2
          go_meet
          exact ⟨by rw [← hE.out, decide_eq_false (show ¬ now < lt by omega)], rfl⟩
  case rest =>
  obtain ⟨rfl, hwc⟩ := hcut
  subst hwc
  clear HI p0 p1 p2 p3
  cases qc with
  | true =>
    have hq := of_decide_eq_true hqc.out
    have hx0 : True := trivial
    have hrz := HRZ.out wc hbb2
    obtain ⟨z0, z1, zf⟩ := blk2 hrz
    have HX : Hid (pruneE (nw, l) (im, sl) now = 24 ∧ pruneS (nw, l) (im, sl) pin now = zSns ∧ goneS (nw, l) (im, sl) pin now = []) := by
      have hm : pruneE (nw, l) (im, sl) now = 24 := by unfold pruneE; rw [if_neg (by rw [HPE.out]; simp), if_neg (by show ¬ snE (im, sl) ≠ 0; rw [HSE.out]; simp), if_pos hq]
      have hne : ¬ pruneE (nw, l) (im, sl) now = 0 := by rw [hm]; first | exact hx0 | decide
      exact ⟨hm, by unfold pruneS; rw [if_neg hne], by unfold goneS; rw [if_neg hne]⟩
    have hbz := HBF.out wc hbb2
    go_wp2_with fail
    have hz := blk2_set hrz (.slice none 0 0) (.slice none 0 0)
    have hbe := ((hbz.setCell (p := ⟨n0 + 1 + 1, 0, none⟩) (by show n0 ≤ n0 + 1 + 1; omega) (.slice none 0 0)).setCell (p := ⟨n0 + 1 + 1, 1, none⟩) (by show n0 ≤ n0 + 1 + 1; omega) (.slice none 0 0))
    have hse := trivial
    change bodyPost _ _ _ _ _ ((wc.setCell ⟨(n0 + 1 + 1), 0, none⟩ (.slice none 0 0)).setCell ⟨(n0 + 1 + 1), 1, none⟩ (.slice none 0 0))
    generalize (wc.setCell ⟨(n0 + 1 + 1), 0, none⟩ (.slice none 0 0)).setCell ⟨(n0 + 1 + 1), 1, none⟩ (.slice none 0 0) = W3 at hz hbe hse ⊢
    obtain ⟨z0, z1, _⟩ := blk2 hz
    refine bodyPost_ret (v := .tuple #[.agg #[(.slice none 0 0), (.slice none 0 0)], .slice none 0 0, .int .i64 24]) ?_ rfl ?_
    · simp [results, Tryz.results7, Tryz.f7, go_sem, z0, z1]
    rw [HX.out.1, HX.out.2.1, HX.out.2.2]
    exact PruneRet.zero (by rw [hn0]; exact hbe)
  | false =>
  have HQ0 := Lib.hid (of_decide_eq_false hqc.out)
  have HE0 : Hid (pruneE (nw, l) (im, sl) now = 0) := by
    rw [Hid, pruneE, if_neg (by rw [HPE.out]; simp), if_neg (by show ¬ snE (im, sl) ≠ 0; rw [HSE.out]; simp), if_neg HQ0.out]
  have HOK : Hid (okT now = true) := by
    have h := HQ0.out
    rw [Hid]
    cases ho : okT now with
    | true => rfl
    | false => exact absurd (Or.inl ho) h
  go_wp2_with fail
  go_loopw [14, 15] (fun v i wr => ∃ (k : Nat) (T : Option Addr) (tc : Nat) (out : List Int), k ≤ sl.length ∧ i = .int .i64 k ∧ v = .slice T out.length tc ∧ Below n2 wc wr ∧ Hid (out = (sl.take k).map (·.2.1)) ∧ Hid (OwnX (fun _ => False) encInt wr n2 3 (.slice T out.length tc) out)) (fun _ i _ => sl.length - (intOf i).toNat)
  case atStart => exact ⟨0, none, 0, [], by omega, rfl, rfl, Below.refl _ _, by simp [Hid], OwnX.nil_⟩
  case round =>
    obtain ⟨wo, rfl⟩ : ∃ wo : World, wo = wr := ⟨_, rfl⟩
    obtain ⟨k, T, tc, out, hk, rfl, rfl, hB, hout, hown⟩ := hrel
    have hbo : Below (n0 + 3) W0 wo := hbb2.trans (hB.mono (by omega))
    have hbwo := HBF.out wo hbo
    obtain ⟨⟨p0, p1⟩, p2, p3⟩ := HRP.out wo hbo
    by_cases hlt : k < sl.length
    · obtain ⟨b, off, D, d, hA2, hb, _, g1, _, _, _, _, _, hi2⟩ := (H3.out wo hbwo).snp hlt
      have hst : Hid ((sl.take (k + 1)).map (·.2.1) = (sl.take k).map (·.2.1) ++ [sl[k].2.1]) := by rw [Hid, List.take_succ_eq_append_getElem hlt, List.map_append]; rfl
      obtain ⟨tm, htm⟩ : ∃ tm, sl[k].2.1 = tm := ⟨_, rfl⟩
      rw [htm] at g1 hi2 hst
      have hki : (k : Int) < sl.length := by omega
      have hnn : (0 : Int) ≤ k := by omega
      have hol : out.length ≤ k := by rw [hout.out]; simp; omega
      have hszo := hB.size
      have HB0 := Lib.hid hB
      have hlt5 := hown.out.lt
      have hO5 := Lib.hid (hown.out.alloc (.cells #[.int .i64 tm] 3))
      have hO5o := Lib.hid hO5.out.1
      have HRD : Hid (encInt.rd (wo.alloc (.cells #[.int .i64 tm] 3)) (fun g => Nw n2 (wo.alloc (.cells #[.int .i64 tm] 3)).heap.size g ∧ ¬ (fun _ => False) g ∧ (Value.slice T out.length tc).ownBlock ≠ some g) [.int .i64 tm] tm) := ⟨rfl, hi2⟩
      subst hA2
      clear htm hi2
      go_wp2_with (at_builtin; refine Hid.out ?_)
      change wpList _ _ _ _ _ _
      refine wpList_app1 (E := encInt) tyInts38 rfl _ _ rfl rfl hO5o.out tm [.int .i64 tm] rfl HRD.out (heap_alloc_new _ _) (fun _ h => h.1.2) (by first | omega | (simp; omega)) (by unfold maxLen; omega) (by omega) ?_
      intro A7 c7 w7 hown7 hg7 hat7
      have hO7 := Lib.hid (hO5.out.app hown7 hg7 hat7 (fun g h => h.elim))
      have hB7 : Hid (Below n2 wc w7) := (HB0.out.alloc (by omega) (.cells #[.int .i64 tm] 3)).grown hg7 (by simp; omega) (fun g h => (hlt5 g h).1)
      clear hown7 hg7 hat7 hlt5
      go_wp2
      go_roundw
      case rel =>
        refine ⟨k + 1, A7, c7, out ++ [tm], hlt, by go_num, by simp, hB7.out, by rw [Hid, hst.out, hout.out], ?_⟩
        have := hO7.out; simpa [Hid] using this
      case measure => simp [intOf]; omega
    · have hkk : sl.length = k := by omega
      have hts : Hid (out = timesS sl) := by rw [Hid, hout.out, ← hkk, List.take_length]; rfl
      have htl : Hid (out.length = sl.length) := by rw [hts.out]; simp [Hid, timesS]
      obtain ⟨_, t1, t2, t3⟩ := hown.out.parts
      have hkI : ¬ (k : Int) < sl.length := by omega
      clear hkk hout hlt
      have HTS : Hid ((∀ t ∈ out, 0 ≤ t ∧ t ≤ 1073741824) ∧ out.Pairwise (· ≤ ·) ∧ out.length ≤ 1024) := by
        obtain ⟨_, hlen, hok, hpw⟩ := snE_iff.1 HSE.out
        rw [hts.out]
        refine ⟨fun t ht => ?_, ?_, by simpa [timesS] using hlen⟩
        · obtain ⟨x, hx, rfl⟩ := List.mem_map.1 ht
          have := (hok x hx).2.1
          simpa [inT] using this
        · unfold timesS
          rw [List.pairwise_map] at hpw ⊢
          exact hpw.imp (fun h => h.2)
      obtain ⟨r, hr⟩ : ∃ r, Hid (keepN (nw, l) out now = r) := ⟨_, Lib.hid rfl⟩
      have hrL : keepL (nw, l) out now = r := by
        unfold keepL
        rw [if_pos ⟨HPE.out, timesB_mk HTS.out.1 HTS.out.2.1 HTS.out.2.2, HOK.out⟩]
        exact hr.out
      have HKP := Lib.hid (refKeep_any Ap T cp tc out.length l.length nw now l out r wo rfl rfl hrL ((H1.out wo hbwo).more (HUP.out wo hbwo)) (t3.more (fun g hg => hg.1.2)) hnpl (by have := HTS.out.2.2; omega))
      have hrl : r.length ≤ 1024 := by
        have h := keepL_len38 (nw, l) out now
        rw [hrL] at h
        have := HTS.out.2.2; omega
      have HOL := Lib.hid (show out.length ≤ 1024 from HTS.out.2.2)
      clear hrL t1 t2 t3
      go_wp2_with fail
      refine HKP.out.mono ?_
      rintro e w5 ⟨R, rc, rfl, _, _, hs5, hb5⟩
      obtain ⟨rl, hrl2⟩ : ∃ rl, Hid (intsN r = rl) := ⟨_, Lib.hid rfl⟩
      rw [hrl2.out] at hs5 ⊢
      have hrll : rl.length ≤ 1024 := by rw [← hrl2.out]; simpa [intsN] using hrl
      have hszo := hB.size
      have hz5 := hb5.size
      have hbo5 : Below (n0 + 3) W0 w5 := hbo.trans (hb5.mono (by omega))
      have hbw5 := HBF.out w5 hbo5
      have hR5 := Lib.hid (show SlAt encInt w5 (Bl w5.heap.size) R rl from hs5.more (fun g hg => hg.2))
      have HCP := Lib.hid (refCopy36_any A A2 c c2 im.length sl.length im sl w5 rfl rfl ((H2.out w5 hbw5).more (HUP.out w5 hbw5)) ((H3.out w5 hbw5).more (HUP.out w5 hbw5)) HLM.out (snE_full HSE.out))
      clear hs5 HKP p0 p1 p2 p3
      obtain ⟨⟨p0, p1⟩, p2, p3⟩ := HRP.out w5 hbo5
      go_wp2_with fail
      refine HCP.out.mono ?_
      rintro e w6 ⟨B6, vc6, D6, dc6, mid6, rfl, hs6, hb6⟩
      obtain ⟨⟨d1, d2, d3⟩, d4, d5, d6⟩ := hs6.read
      obtain ⟨n7, hn7⟩ : ∃ n, w5.heap.size = n := ⟨_, rfl⟩
      obtain ⟨ob, hob⟩ : ∃ n, w6.heap.size = n := ⟨_, rfl⟩
      obtain ⟨W6, hW6⟩ : ∃ W, w6.alloc (.cells #[.slice B6 im.length vc6, .slice D6 sl.length dc6] 29) = W := ⟨_, rfl⟩
      have hbW6 : Below w6.heap.size w6 W6 := by rw [← hW6]; exact ext_alloc (Below.refl _ _)
      have hr6 : W6.heap[ob]? = some (.cells #[.slice B6 im.length vc6, .slice D6 sl.length dc6] 29 (0, 0)) := by rw [← hW6, ← hob]; exact heap_alloc_new _ _
      have hz6 := hb6.size
      have hob7 : n7 ≤ ob := by omega
      obtain ⟨n6, hn6⟩ : ∃ n, W6.heap.size = n := ⟨_, rfl⟩
      have hob6 : ob < n6 := by rw [← hn6]; exact (Array.getElem?_eq_some_iff.1 hr6).1
      have hb06 : Below (n0 + 3) W0 W6 := (hbo5.trans (hb6.mono (by omega))).trans (hbW6.mono (by omega))
      have hbw6 := HBF.out W6 hb06
      have hR6 : Hid (SlAt encInt W6 (Bl n7) R rl) := by
        have h := (hR5.out.below hb6).below (w' := W6) (hbW6.mono (by omega))
        rw [hn7] at h; exact h
      have hn03 : n0 + 3 ≤ n7 := by omega
      have hI6 : SlAt (encSl encSec) W6 (fun b => b < W6.heap.size ∧ b ≠ ob ∧ (Value.slice none 0 0).ownBlock ≠ some b ∧ n7 ≤ b) B6 im := (d3.blk (fun g hg => hbW6.block g hg.2)).more (fun b hb => ⟨by have := hb.2; omega, by have := hb.2; omega, by simp [Value.ownBlock], by have := hb.1; omega⟩)
      have hS6 : SlAt encSnp W6 (fun b => b < W6.heap.size ∧ b ≠ ob ∧ (Value.slice none 0 0).ownBlock ≠ some b ∧ n7 ≤ b) D6 sl := (d6.blk (fun g hg => hbW6.block g hg.2)).more (fun b hb => ⟨by have := hb.2; omega, by have := hb.2; omega, by simp [Value.ownBlock], by have := hb.1; omega⟩)
      have HDC := Lib.hid (And.intro (And.intro d1 d2) (And.intro d4 d5))
      obtain ⟨K, hK⟩ : ∃ K, K = stays (nw, l) sl pin now := ⟨_, rfl⟩
      have HK := Lib.hid hK
      clear d1 d2 d3 d4 d5 d6 hs6 HCP p0 p1 p2 p3 hK
      go_wp2_with fail
      go_loopw [18, 19] (fun v iv wr => ∃ (i : Nat) (G : Option Addr) (gc : Nat) (gone : List Int) (B D : Option Addr) (vc dc : Nat) (ml : List Snp), i ≤ sl.length ∧ iv = .int .i64 i ∧ v = .slice G gone.length gc ∧ Hid (pruneT im K sl i = (ml, gone)) ∧ Hid (W6.grownBy wr (some ob)) ∧ Hid (wr.heap[ob]? = some (.cells #[.slice B im.length vc, .slice D ml.length dc] 29 (0, 0))) ∧ Hid (im.length ≤ vc ∧ vc ≤ maxLen ∧ ml.length ≤ dc ∧ dc ≤ maxLen) ∧ Hid (OwnX (fun _ => False) encInt wr n6 3 (.slice G gone.length gc) gone) ∧ Hid (SlAt (encSl encSec) wr (fun b => b < wr.heap.size ∧ b ≠ ob ∧ (Value.slice G gone.length gc).ownBlock ≠ some b ∧ n7 ≤ b) B im) ∧ Hid (SlAt encSnp wr (fun b => b < wr.heap.size ∧ b ≠ ob ∧ (Value.slice G gone.length gc).ownBlock ≠ some b ∧ n7 ≤ b) D ml)) (fun _ iv _ => sl.length - (intOf iv).toNat)
      case atStart => exact ⟨0, none, 0, [], B6, D6, vc6, dc6, sl, by omega, rfl, rfl, rfl, grown_reflR _ _, hr6, ⟨HDC.out.1.1, HDC.out.1.2, HDC.out.2.1, HDC.out.2.2⟩, OwnX.nil_, hI6, hS6⟩
      case round =>
        obtain ⟨wo, rfl⟩ : ∃ wo : World, wo = wr := ⟨_, rfl⟩
        obtain ⟨i, G, gc, gone, B, D, vc, dc, ml, hi, rfl, rfl, HPT, HG, HROW, HCAP, HO, HIM, HML⟩ := hrel
        have hzo := HG.out.size
        have hbwo : Below n0 w wo := hbw6.grown HG.out (by omega) (fun b hb => by injection hb with hb; omega)
        have hb0o : Below (n0 + 3) W0 wo := hb06.grown HG.out (by omega) (fun b hb => by injection hb with hb; omega)
        have hRo := Lib.hid ((hR6.out.blk (w' := wo) (fun g hg => HG.out.block g (by have : g < n7 := hg; omega) (by have : g < n7 := hg; simp; omega))).more (fun g (hg : g < n7) => show g < wo.heap.size by omega))
        by_cases hlt : i < sl.length
        · have hiI : (i : Int) < sl.length := by omega
          have hi0 : (0 : Int) ≤ i := by omega
          obtain ⟨b, off, Dx, dx, hA2, hb, g0, _, _, _, _, _, hin, _⟩ := (H3.out wo hbwo).snp hlt
          obtain ⟨num, hnum⟩ : ∃ num, sl[i].1 = num := ⟨_, rfl⟩
          rw [hnum] at g0 hin
          have HNUM : Hid (numAt sl i = num) := by rw [Hid, numAt_eq hlt, hnum]
          have hKi : Hid (K i = (keptB (nw, l) out now i || pin.contains num)) := by rw [Hid, HK.out, stays, hts.out, HNUM.out]
          obtain ⟨q, hq⟩ : ∃ q, keptB (nw, l) out now i = q := ⟨_, rfl⟩
          have hhas : rl.contains (i : Int) = q := by rw [← hrl2.out, ← hq]; exact has_keep hr.out (by have := htl.out; omega)
          have HH1 := Lib.hid (has15_any R rc rl.length rl (i : Int) q wo rfl hRo.out (by omega) hhas)
          rw [hq] at hKi
          obtain ⟨⟨v0, v1⟩, v2, v3⟩ := HRP.out wo hb0o
          subst hA2
          clear hq hnum hhas
          go_wp2_with fail
          refine HH1.out.mono ?_
          rintro e w7 ⟨rfl, hd7⟩
          obtain ⟨HG, HROW, HO, HIM, HML⟩ : Hid (W6.grownBy w7 (some ob)) ∧ Hid (w7.heap[ob]? = some (.cells #[.slice B im.length vc, .slice D ml.length dc] 29 (0, 0))) ∧ Hid (OwnX (fun _ => False) encInt w7 n6 3 (.slice G gone.length gc) gone) ∧ Hid (SlAt (encSl encSec) w7 (fun b => b < w7.heap.size ∧ b ≠ ob ∧ (Value.slice G gone.length gc).ownBlock ≠ some b ∧ n7 ≤ b) B im) ∧ Hid (SlAt encSnp w7 (fun b => b < w7.heap.size ∧ b ≠ ob ∧ (Value.slice G gone.length gc).ownBlock ≠ some b ∧ n7 ≤ b) D ml) := by
            have hbd := hd7.below wo.heap.size
            exact ⟨grown_below HG.out hbd, (hbd.block ob (Array.getElem?_eq_some_iff.1 HROW.out).1).trans HROW.out, HO.out.below hbd, (HIM.out.blk (fun g hg => hbd.block g hg.1)).more (fun g hg => ⟨by have := hbd.size; have := hg.1; omega, hg.2⟩), (HML.out.blk (fun g hg => hbd.block g hg.1)).more (fun g hg => ⟨by have := hbd.size; have := hg.1; omega, hg.2⟩)⟩
          have hzo := HG.out.size
          have hbw7 : Below n0 w w7 := hbw6.grown HG.out (by omega) (fun b hb => by injection hb with hb; omega)
          have hb07 : Below (n0 + 3) W0 w7 := hb06.grown HG.out (by omega) (fun b hb => by injection hb with hb; omega)
          clear HH1 hd7 v0 v1 v2 v3 hRo g0
          cases q with
          | true =>
            have hst : Hid (pruneT im K sl (i + 1) = (ml, gone)) := by rw [Hid, pruneT_stay (by rw [hKi.out]; rfl)]; exact HPT.out
            go_wp2_with fail
            go_roundw
            case rel => exact ⟨i + 1, G, gc, gone, B, D, vc, dc, ml, hlt, by go_num, rfl, hst.out, HG.out, HROW.out, HCAP.out, HO.out, HIM.out, HML.out⟩
            case measure => simp [intOf]; omega
          | false =>
            obtain ⟨qp, hqp⟩ : ∃ q, Hid (pin.contains num = q) := ⟨_, Lib.hid rfl⟩
            have HCT := Lib.hid (has15_any Ag cg pin.length pin num qp w7 rfl ((H4.out w7 hbw7).more (HUP.out w7 hbw7)) hngl hqp.out)
            go_wp2_with fail
            refine HCT.out.mono ?_
            rintro e w8 ⟨rfl, hd8⟩
            obtain ⟨HG, HROW, HO, HIM, HML⟩ : Hid (W6.grownBy w8 (some ob)) ∧ Hid (w8.heap[ob]? = some (.cells #[.slice B im.length vc, .slice D ml.length dc] 29 (0, 0))) ∧ Hid (OwnX (fun _ => False) encInt w8 n6 3 (.slice G gone.length gc) gone) ∧ Hid (SlAt (encSl encSec) w8 (fun b => b < w8.heap.size ∧ b ≠ ob ∧ (Value.slice G gone.length gc).ownBlock ≠ some b ∧ n7 ≤ b) B im) ∧ Hid (SlAt encSnp w8 (fun b => b < w8.heap.size ∧ b ≠ ob ∧ (Value.slice G gone.length gc).ownBlock ≠ some b ∧ n7 ≤ b) D ml) := by
              have hbd := hd8.below w7.heap.size
              exact ⟨grown_below HG.out hbd, (hbd.block ob (Array.getElem?_eq_some_iff.1 HROW.out).1).trans HROW.out, HO.out.below hbd, (HIM.out.blk (fun g hg => hbd.block g hg.1)).more (fun g hg => ⟨by have := hbd.size; have := hg.1; omega, hg.2⟩), (HML.out.blk (fun g hg => hbd.block g hg.1)).more (fun g hg => ⟨by have := hbd.size; have := hg.1; omega, hg.2⟩)⟩
            have hzo := HG.out.size
            clear HCT hd8
            cases qp with
            | true =>
              have hst : Hid (pruneT im K sl (i + 1) = (ml, gone)) := by rw [Hid, pruneT_stay (by rw [hKi.out, hqp.out]; rfl)]; exact HPT.out
              go_wp2_with fail
              go_roundw
              case rel => exact ⟨i + 1, G, gc, gone, B, D, vc, dc, ml, hlt, by go_num, rfl, hst.out, HG.out, HROW.out, HCAP.out, HO.out, HIM.out, HML.out⟩
              case measure => simp [intOf]; omega
            | false =>
              have hKf : K i = false := by rw [hKi.out, hqp.out]; rfl
              have hinv := pruneT_inv (K := K) HSE.out i (by omega)
              rw [HPT.out] at hinv
              have hdrop := hinv.drop HSE.out hlt hKf
              rw [HNUM.out] at hdrop
              have hlim := hinv.lim HLM.out HSV.out
              have hgl : gone.length ≤ 100000 := by have h : ml.length + gone.length = sl.length := hinv.len; omega
              have hst0 := pruneT_drop (im := im) (l := sl) (K := K) (i := i) hKf
              rw [HPT.out, HNUM.out] at hst0
              obtain ⟨m', hm'⟩ : ∃ m', (sDelete (im, ml) num).2 = m' := ⟨_, rfl⟩
              have hsd : sDelete (im, ml) num = (im, m') := by rw [← hm']; exact Prod.ext hdrop.2.1 rfl
              have hst : Hid (pruneT im K sl (i + 1) = (m', gone ++ [num])) := by rw [Hid, hst0, hm']
              have HDL : Hid (Calls Tryz.prog 30 #[.agg #[.slice B im.length vc, .slice D ml.length dc], .int .i64 num] w8 (SnRetE (im, m') 0 w8)) := by
                have h := refSnDelete_any B D vc dc im.length ml.length im ml num w8 rfl rfl (HIM.out.more (fun b hb => hb.1)) (HML.out.more (fun b hb => hb.1)) hlim.1 hlim.2
                rw [hsd, hdrop.1] at h
                exact h
              obtain ⟨y0, y1, yf⟩ := blk2 HROW.out
              clear hinv hdrop hlim hst0 hsd hm'
              go_wp2_with fail
              refine HDL.out.mono ?_
              rintro e w9 ⟨B', vc', D', dc', mid, rfl, hsr, hb9⟩
              obtain ⟨⟨d1, d2, d3⟩, d4, d5, d6⟩ := hsr.read
              obtain ⟨n9, hn9⟩ : ∃ n, w9.heap.size = n := ⟨_, rfl⟩
              have hz9 := hb9.size
              have h58 : ob < w8.heap.size := (Array.getElem?_eq_some_iff.1 HROW.out).1
              have hz8 := HO.out.lt
              have hr59 := (hb9.block ob h58).trans HROW.out
              have HDC2 := Lib.hid (And.intro (And.intro d1 d2) (And.intro d4 d5))
              have hso : ∀ g, g ≠ ob → ((w9.setCell ⟨ob, 0, none⟩ (.slice B' im.length vc')).setCell ⟨ob, 1, none⟩ (.slice D' m'.length dc')).heap[g]? = w9.heap[g]? := fun g hg => (heap_setCell_other _ ⟨ob, 1, none⟩ g _ hg).trans (heap_setCell_other _ ⟨ob, 0, none⟩ g _ hg)
              have hss : ((w9.setCell ⟨ob, 0, none⟩ (.slice B' im.length vc')).setCell ⟨ob, 1, none⟩ (.slice D' m'.length dc')).heap.size = n9 := by rw [← hn9]; simp [World.setCell]
              have hro9 := blk2_set hr59 (.slice B' im.length vc') (.slice D' m'.length dc')
              have hO9 := (HO.out.below hb9).keep (w' := (w9.setCell ⟨ob, 0, none⟩ (.slice B' im.length vc')).setCell ⟨ob, 1, none⟩ (.slice D' m'.length dc')) (by rw [hss, hn9]; exact Nat.le_refl _) (fun g hg _ _ => hso g (by omega))
              have hG9 := grown_setR (grown_setR (grown_below HG.out hb9) 0 (.slice B' im.length vc')) 1 (.slice D' m'.length dc')
              have hd3 := (d3.blk (w' := (w9.setCell ⟨ob, 0, none⟩ (.slice B' im.length vc')).setCell ⟨ob, 1, none⟩ (.slice D' m'.length dc')) (fun g hg => hso g (by have := hg.1; omega))).more (S' := fun b => w8.heap.size ≤ b ∧ b < n9) (fun g hg => ⟨hg.1, by have := hg.2; omega⟩)
              have hd6 := (d6.blk (w' := (w9.setCell ⟨ob, 0, none⟩ (.slice B' im.length vc')).setCell ⟨ob, 1, none⟩ (.slice D' m'.length dc')) (fun g hg => hso g (by have := hg.1; omega))).more (S' := fun b => w8.heap.size ≤ b ∧ b < n9) (fun g hg => ⟨hg.1, by have := hg.2; omega⟩)
              have HPK := Lib.hid (And.intro hss (And.intro hro9 (And.intro hO9 (And.intro hG9 (And.intro hd3 hd6)))))
              clear d1 d2 d3 d4 d5 d6 hsr hso hss hro9 hO9 hG9 hd3 hd6 y0 y1 yf HDL
              obtain ⟨y0, y1, yf⟩ := blk2 hr59
              go_upto_region 24 with (fail)
              have hpk := HPK.out
              clear HPK y0 y1 yf hr59
              generalize (w9.setCell ⟨ob, 0, none⟩ (.slice B' im.length vc')).setCell ⟨ob, 1, none⟩ (.slice D' m'.length dc') = W9 at hpk ⊢
              obtain ⟨hss, hro9, hO9, hG9, hd3, hd6⟩ := hpk
              have HRO9 := Lib.hid hro9
              have HG9 := Lib.hid hG9
              have HD3 := Lib.hid hd3
              have HD6 := Lib.hid hd6
              have hO5 := Lib.hid (hO9.alloc (.cells #[.int .i64 num] 3))
              have hO5o := Lib.hid hO5.out.1
              have HRD : Hid (encInt.rd (W9.alloc (.cells #[.int .i64 num] 3)) (fun g => Nw n6 (W9.alloc (.cells #[.int .i64 num] 3)).heap.size g ∧ ¬ (fun _ => False) g ∧ (Value.slice G gone.length gc).ownBlock ≠ some g) [.int .i64 num] num) := ⟨rfl, hin⟩
              have HSS := Lib.hid hss
              have hn9W : n9 ≤ W9.heap.size := by omega
              clear hss hro9 hO9 hG9 hd3 hd6
              go_wp2_with (at_builtin; refine Hid.out ?_)
              change wpList _ _ _ _ _ _
              refine wpList_app1 (E := encInt) tyInts38 rfl _ _ rfl rfl hO5o.out num [.int .i64 num] rfl HRD.out (heap_alloc_new _ _) (fun _ h => h.1.2) (by first | omega | (simp; omega)) (by unfold maxLen; omega) (by omega) ?_
              intro A6 c6 w10 hown6 hg6 hat6
              have hle7 : Hid ((gone ++ [num]).length = gone.length + 1) := by simp [Hid]
              have hO7 : Hid (OwnX (fun _ => False) encInt w10 n6 3 (.slice A6 (gone.length + 1) c6) (gone ++ [num])) := hO5.out.app hown6 hg6 hat6 (fun b hb => hb.elim)
              have hgs6 : W9.heap.size + 1 ≤ w10.heap.size := by have := hg6.size; simp at this; omega
              have hbk : ∀ g, g < W9.heap.size → (Value.slice G gone.length gc).ownBlock ≠ some g → w10.heap[g]? = W9.heap[g]? := fun g h1 h2 => (hg6.block g (by simp; omega) (fun e => h2 e.symm)).trans (Below.heap_alloc W9 _ g h1)
              have hne : ∀ g, w8.heap.size ≤ g → g < n9 → (Value.slice A6 (gone.length + 1) c6).ownBlock ≠ some g := fun g h1 h2 e => by
                rcases hat6 with hat | hat
                · rw [hat] at e; have := (hz8 g e).2; omega
                · rw [hat] at e; injection e with e; simp at e; omega
              have hG7 : Hid (W6.grownBy w10 (some ob)) := by
                refine ⟨hg6.os.trans HG9.out.os, hg6.tape.trans HG9.out.tape, hg6.output.trans HG9.out.output, by have := HG9.out.size; omega, fun k hk hn => ?_⟩
                have hgz := HG9.out.size
                exact (hbk k (by omega) (fun e => by have := (hz8 k e).1; omega)).trans (HG9.out.block k hk hn)
              have hro7 : Hid (w10.heap[ob]? = some (.cells #[.slice B' im.length vc', .slice D' m'.length dc'] 29 (0, 0))) := (hbk ob (by omega) (fun e => by have := (hz8 ob e).1; omega)).trans HRO9.out
              have hD3 : Hid (SlAt (encSl encSec) w10 (fun b => b < w10.heap.size ∧ b ≠ ob ∧ (Value.slice A6 (gone.length + 1) c6).ownBlock ≠ some b ∧ n7 ≤ b) B' im) := (HD3.out.blk (fun g hg => hbk g (by have := hg.2; omega) (fun e => by have := (hz8 g e).2; have := hg.1; omega))).more (fun g hg => ⟨by have := hg.2; omega, by have := hg.1; omega, hne g hg.1 hg.2, by have := hg.1; omega⟩)
              have hD6 : Hid (SlAt encSnp w10 (fun b => b < w10.heap.size ∧ b ≠ ob ∧ (Value.slice A6 (gone.length + 1) c6).ownBlock ≠ some b ∧ n7 ≤ b) D' m') := (HD6.out.blk (fun g hg => hbk g (by have := hg.2; omega) (fun e => by have := (hz8 g e).2; have := hg.1; omega))).more (fun g hg => ⟨by have := hg.2; omega, by have := hg.1; omega, hne g hg.1 hg.2, by have := hg.1; omega⟩)
              clear hown6 hg6 hat6 hbk hne hgs6
              go_wp2_with fail
              go_roundw
              case rel => exact ⟨i + 1, A6, c6, gone ++ [num], B', D', vc', dc', m', hlt, by go_num, by rw [hle7.out], hst.out, hG7.out, hro7.out, ⟨HDC2.out.1.1, HDC2.out.1.2, HDC2.out.2.1, HDC2.out.2.2⟩, by rw [Hid, hle7.out]; exact hO7.out, by rw [Hid, hle7.out]; exact hD3.out, by rw [Hid, hle7.out]; exact hD6.out⟩
              case measure => simp [intOf]; omega
        · have hie : i = sl.length := by omega
          have hiI : ¬ (i : Int) < sl.length := by omega
          have HPF : Hid (pruneT im K sl sl.length = (ml, gone)) := by rw [Hid, ← hie]; exact HPT.out
          have HPS : Hid (pruneS (nw, l) (im, sl) pin now = (im, ml) ∧ goneS (nw, l) (im, sl) pin now = gone) := by
            have h := HPF.out
            rw [HK.out] at h
            unfold pruneS goneS
            rw [if_pos HE0.out, if_pos HE0.out]
            exact ⟨by rw [h], by rw [h]⟩
          have hrz := HRZ.out wo hb0o
          obtain ⟨z0, z1, zf⟩ := blk2 hrz
          obtain ⟨y0, y1, yf⟩ := blk2 HROW.out
          obtain ⟨_, o1, o2, o3⟩ := HO.out.parts
          have hi3 := HIM.out.nw2 (b := n0 + 1 + 1) (lo := n0) (fun g hg => ⟨by have := hg.2.2.2; omega, by have := hg.2.2.2; omega, hg.1⟩) (.slice B im.length vc) (.slice D ml.length dc)
          have hi6 := HML.out.nw2 (b := n0 + 1 + 1) (lo := n0) (fun g hg => ⟨by have := hg.2.2.2; omega, by have := hg.2.2.2; omega, hg.1⟩) (.slice B im.length vc) (.slice D ml.length dc)
          have hi9 := o3.nw2 (b := n0 + 1 + 1) (lo := n0) (fun g hg => ⟨by have := hg.1.1; omega, by have := hg.1.1; omega, hg.1.2⟩) (.slice B im.length vc) (.slice D ml.length dc)
          have HIE := Lib.hid (And.intro hi3 (And.intro hi6 hi9))
          have HGC := Lib.hid (And.intro o1 o2)
          clear hie hlt hi hi3 hi6 hi9 o1 o2 o3
          go_wp2_with fail
          have hz := blk2_set hrz (.slice B im.length vc) (.slice D ml.length dc)
          have hbe := ((hbwo.setCell (p := ⟨n0 + 1 + 1, 0, none⟩) (by show n0 ≤ n0 + 1 + 1; omega) (.slice B im.length vc)).setCell (p := ⟨n0 + 1 + 1, 1, none⟩) (by show n0 ≤ n0 + 1 + 1; omega) (.slice D ml.length dc))
          have hse := HIE.out
          change bodyPost _ _ _ _ _ ((wo.setCell ⟨(n0 + 1 + 1), 0, none⟩ (.slice B im.length vc)).setCell ⟨(n0 + 1 + 1), 1, none⟩ (.slice D ml.length dc))
          generalize (wo.setCell ⟨(n0 + 1 + 1), 0, none⟩ (.slice B im.length vc)).setCell ⟨(n0 + 1 + 1), 1, none⟩ (.slice D ml.length dc) = W3 at hz hbe hse ⊢
          obtain ⟨z0, z1, _⟩ := blk2 hz
          refine bodyPost_ret (v := .tuple #[.agg #[(.slice B im.length vc), (.slice D ml.length dc)], .slice G gone.length gc, .int .i64 0]) ?_ rfl ?_
          · simp [results, Tryz.results7, Tryz.f7, go_sem, z0, z1]
          rw [HPS.out.1, HPS.out.2, HE0.out]
          exact ⟨B, vc, D, dc, G, gc, rfl, ⟨HCAP.out.1, HCAP.out.2.1, by rw [hn0]; exact hse.1⟩, ⟨HCAP.out.2.2.1, HCAP.out.2.2.2, by rw [hn0]; exact hse.2.1⟩, ⟨HGC.out.1, HGC.out.2, by rw [hn0]; exact hse.2.2⟩, by rw [hn0]; exact hbe⟩
end Go.Proofs.YtnkmklnlaepdeaaGreat

namespace Go.Proofs.YtnkmklnlaepdeaaGreat
open Go.RowKit Go.Shelf
attribute [local go_sem] Oper.semAt_some

theorem Calls.at_world {P : Program} {f : FuncId} {args : Array Value} {R : Ending → World → Prop} (w : World) (h : Calls P f args w R) : Calls P f args w R := h
theorem prAll {jm : Img} {ml : List Snp} {gone : List Int} {w w' : World} {e : Ending} {r : Int} (h : PruneRet (jm, ml) gone r w e w') : ∃ B vc D dc G gc, e = .returned (.tuple #[.agg #[.slice B jm.length vc, .slice D ml.length dc], .slice G gone.length gc, .int .i64 r]) ∧ ml.length ≤ dc ∧ SlAt (encSl encSec) w' (Nw w.heap.size w'.heap.size) B jm ∧ SlAt encSnp w' (Nw w.heap.size w'.heap.size) D ml ∧ SlAt encInt w' (Nw w.heap.size w'.heap.size) G gone ∧ Below w.heap.size w w' := by
  obtain ⟨B, vc, D, dc, G, gc, he, ⟨_, _, h1⟩, ⟨a1, _, h2⟩, ⟨_, _, h3⟩, h4⟩ := h
  exact ⟨B, vc, D, dc, G, gc, he, a1, h1, h2, h3, h4⟩
theorem pruneE_ok {p : Pol} {s : Sns} {now : Int} (h : pruneE p s now = 0) : snE s = 0 := by
  unfold pruneE at h
  split at h
  · rename_i h1; exact absurd h h1
  · split at h
    · rename_i h1; exact absurd h h1
    · rename_i h1
      have h1 : ¬ snE s ≠ 0 := h1
      omega
theorem prune_bad {p : Pol} {s : Sns} {pin : List Int} {now : Int} (h : pruneE p s now ≠ 0) : pruneS p s pin now = zSns ∧ goneS p s pin now = [] := by
  unfold pruneS goneS; rw [if_neg h, if_neg h]; exact ⟨rfl, rfl⟩
theorem prune_good {p : Pol} {im : Img} {sl : List Snp} {pin : List Int} {now : Int} (h : pruneE p (im, sl) now = 0) : ∃ ml gone, pruneS p (im, sl) pin now = (im, ml) ∧ goneS p (im, sl) pin now = gone ∧ PInv im sl (stays p sl pin now) sl.length ml gone := by
  have h1 := pruneT_inv (K := stays p sl pin now) (pruneE_ok h) sl.length (Nat.le_refl _)
  refine ⟨(pruneT im (stays p sl pin now) sl sl.length).1, (pruneT im (stays p sl pin now) sl sl.length).2, ?_, ?_, h1⟩
  · unfold pruneS; rw [if_pos h]
  · unfold goneS; rw [if_pos h]
set_option maxHeartbeats 8000000 in
set_option maxRecDepth 100000 in
theorem rprunes_any (A B D X0 X1 : Option Addr) (c cb cd c0 c1 n nb nd n0' n1' : Nat) (nw : Int) (l : List Rule) (im : Img) (sl : List Snp) (pin xs : List Int) (w : World) (hn : l.length = n) (hnb : im.length = nb) (hnd : sl.length = nd) (hn0 : pin.length = n0') (hn1 : xs.length = n1')
    (h1 : SlAt encExt w (Bl w.heap.size) A l) (h2 : SlAt (encSl encSec) w (Bl w.heap.size) B im) (h3 : SlAt encSnp w (Bl w.heap.size) D sl) (h4 : SlAt encInt w (Bl w.heap.size) X0 pin) (h5 : SlAt encInt w (Bl w.heap.size) X1 xs) (hl : n ≤ 9223372036854775807) (hcb : nb ≤ cb ∧ cb ≤ maxLen) (hcd : nd ≤ cd ∧ cd ≤ maxLen) (hl4 : n0' ≤ 9223372036854775807) (hl5 : n1' ≤ 9223372036854775807) :
    Calls Tryz.prog 3 #[.agg #[.int .i64 nw, .slice A n c], .agg #[.slice B nb cb, .slice D nd cd], .agg #[.slice X0 n0' c0, .slice X1 n1' c1]] w (LawRet w) := by
  subst hn hnb hnd hn0
  have H1 := Lib.hid h1; have H2 := Lib.hid h2; have H3 := Lib.hid h3; have H4 := Lib.hid h4; have H5 := Lib.hid h5; clear h1 h2 h3 h4 h5
  have HCB := Lib.hid hcb; have HCD := Lib.hid hcd
  have hlb : im.length ≤ 9223372036854775807 := by unfold maxLen at hcb; omega
  have hld : sl.length ≤ 9223372036854775807 := by unfold maxLen at hcd; omega
  clear hcb hcd
  obtain ⟨m0, hm0⟩ : ∃ m0, w.heap.size = m0 := ⟨_, rfl⟩
  obtain ⟨W0, hW0⟩ : ∃ W0, ((w.alloc (.cells #[.int .i64 nw, .slice A l.length c] 24)).alloc (.cells #[.slice B im.length cb, .slice D sl.length cd] 29)).alloc (.cells #[.slice X0 pin.length c0, .slice X1 n1' c1] 31) = W0 := ⟨_, rfl⟩
  have hB0 : Below w.heap.size w W0 := by rw [← hW0]; exact ext_alloc (ext_alloc (ext_alloc (Below.refl _ _)))
  have hs0 : Hid (W0.heap.size = m0 + 3) := by rw [Hid, ← hW0, ← hm0]; simp
  have hr0 : W0.heap[m0]? = some (.cells #[.int .i64 nw, .slice A l.length c] 24 (0, 0)) := by rw [← hW0, ← hm0]; exact (Below.heap_alloc _ _ _ (by simp; omega)).trans ((Below.heap_alloc _ _ _ (by simp)).trans (heap_alloc_new _ _))
  have hr1 : W0.heap[m0 + 1]? = some (.cells #[.slice B im.length cb, .slice D sl.length cd] 29 (0, 0)) := by rw [← hW0, ← hm0]; exact (Below.heap_alloc _ _ _ (by simp)).trans (heap_new2 _ _ _)
  have hr2 : W0.heap[m0 + 2]? = some (.cells #[.slice X0 pin.length c0, .slice X1 n1' c1] 31 (0, 0)) := by rw [← hW0, ← hm0]; exact heap_new3 _ _ _ _
  have HC : Hid (∀ W, Below W0.heap.size W0 W → (W.cell? ⟨m0, 0, none⟩ = some (.int .i64 nw) ∧ W.cell? ⟨m0, 1, none⟩ = some (.slice A l.length c)) ∧ (W.cell? ⟨m0 + 1, 0, none⟩ = some (.slice B im.length cb) ∧ W.cell? ⟨m0 + 1, 1, none⟩ = some (.slice D sl.length cd)) ∧ W.cell? ⟨m0 + 2, 0, none⟩ = some (.slice X0 pin.length c0) ∧ W.cell? ⟨m0 + 2, 1, none⟩ = some (.slice X1 n1' c1)) := fun W hb => by
    have := hs0.out
    obtain ⟨a, b, _⟩ := blk2 ((hb.block m0 (by omega)).trans hr0)
    obtain ⟨a', b', _⟩ := blk2 ((hb.block (m0 + 1) (by omega)).trans hr1)
    obtain ⟨a'', b'', _⟩ := blk2 ((hb.block (m0 + 2) (by omega)).trans hr2)
    exact ⟨⟨a, b⟩, ⟨a', b'⟩, a'', b''⟩
  obtain ⟨⟨p0, p1⟩, ⟨p2, p3⟩, p4, p5⟩ := HC.out W0 (Below.refl _ _)
  have p4' : W0.cell? ⟨m0 + 1 + 1, 0, none⟩ = some (.slice X0 pin.length c0) := p4
  have p5' : W0.cell? ⟨m0 + 1 + 1, 1, none⟩ = some (.slice X1 n1' c1) := p5
  have HW0 := Lib.hid hW0
  clear hr0 hr1 hr2 hW0
  go_enter Tryz.func3, Tryz.ntmps3
  go_upto_region 1 with (fail)
  try rw [hm0]
  rw [HW0.out]
  by_cases h40 : 40 < l.length
  · have h40' : (40 : Int) < l.length := by omega
    go_wp2_with fail
    refine (awake38_any _).mono ?_
    rintro e wz ⟨rfl, hbz⟩
    go_wp2
    go_ret
    exact ⟨rfl, ext_trans hB0 hbz⟩
  have h40' : ¬ (40 : Int) < l.length := by omega
  obtain ⟨q, hq⟩ : ∃ q, Hid (fewS (im, sl) = q) := ⟨_, Lib.hid rfl⟩
  have HFW := Lib.hid (snFew_any B D cb cd im.length sl.length im sl q W0 rfl rfl hq.out (H2.out.fwd hB0) (H3.out.fwd hB0) hlb hld)
  go_wp2_with fail
  refine HFW.out.mono ?_
  rintro e w1 ⟨rfl, hb1⟩
  have hB1 : Below w.heap.size w w1 := ext_trans hB0 hb1
  clear HFW p0 p1 p2 p3 p4 p5 p4' p5'
  obtain ⟨⟨p0, p1⟩, ⟨p2, p3⟩, p4, p5⟩ := HC.out w1 hb1
  have p4' : w1.cell? ⟨m0 + 1 + 1, 0, none⟩ = some (.slice X0 pin.length c0) := p4
  have p5' : w1.cell? ⟨m0 + 1 + 1, 1, none⟩ = some (.slice X1 n1' c1) := p5
  cases q with
  | false =>
    go_wp2_with fail
    refine (awake38_any _).mono ?_
    rintro e wz ⟨rfl, hbz⟩
    go_wp2
    go_ret
    exact ⟨rfl, ext_trans hB1 hbz⟩
  | true =>
  by_cases h20 : 20 < pin.length
  · have h20' : (20 : Int) < pin.length := by omega
    go_wp2_with fail
    refine (awake38_any _).mono ?_
    rintro e wz ⟨rfl, hbz⟩
    go_wp2
    go_ret
    exact ⟨rfl, ext_trans hB1 hbz⟩
  have h20' : ¬ (20 : Int) < pin.length := by omega
  by_cases hx1 : n1' = 1
  case neg =>
    have hx1' : ((n1' : Int) != 1) = true := by simp; omega
    clear hx1
    go_wp2_with fail
    refine (awake38_any _).mono ?_
    rintro e wz ⟨rfl, hbz⟩
    go_wp2
    go_ret
    exact ⟨rfl, ext_trans hB1 hbz⟩
  subst hx1
  obtain ⟨hLM, hsl30, him9⟩ := fewS_lim hq.out
  have HLM := Lib.hid hLM
  have HSV : Hid (∀ x ∈ sl, x.2.2.length ≤ 50000) := fun x hx => by have := few_sav hq.out x hx; omega
  obtain ⟨b, off, hXe, hbx, gx, hix⟩ := (H5.out.fwd hB1).int (k := 0) (by omega)
  clear hix
  obtain ⟨now, hnow⟩ : ∃ now, xs[0]'(by omega) = now := ⟨_, rfl⟩
  rw [hnow] at gx
  have hbxl : b < w1.heap.size := hbx
  subst hXe
  clear hnow hLM hbx hn1
  obtain ⟨pe, hpe⟩ : ∃ q, Hid (pruneE (nw, l) (im, sl) now = q) := ⟨_, Lib.hid rfl⟩
  obtain ⟨⟨jm, ml⟩, hps⟩ : ∃ s, pruneS (nw, l) (im, sl) pin now = s := ⟨_, rfl⟩
  obtain ⟨gone, hgn⟩ : ∃ g, goneS (nw, l) (im, sl) pin now = g := ⟨_, rfl⟩
  have HPR := Lib.hid (fun W (hb : Below w1.heap.size w1 W) => prune_any A B D X0 c cb cd c0 l.length im.length sl.length pin.length nw now l im sl pin W rfl rfl rfl rfl (H1.out.fwd (ext_trans hB1 hb)) (H2.out.fwd (ext_trans hB1 hb)) (H3.out.fwd (ext_trans hB1 hb)) (H4.out.fwd (ext_trans hB1 hb)) HLM.out HSV.out hl hl4 HCB.out HCD.out)
  rw [hpe.out, hps, hgn] at HPR
  have HLEN : Hid (jm.length ≤ 9 ∧ ml.length ≤ 30 ∧ gone.length ≤ 30) := by
    by_cases h : pruneE (nw, l) (im, sl) now = 0
    · obtain ⟨ml', gone', e1, e2, hv⟩ := prune_good (pin := pin) h
      rw [hps] at e1
      rw [hgn] at e2
      obtain ⟨rfl, rfl⟩ := Prod.mk.inj e1
      subst e2
      have h : ml.length + gone.length = sl.length := hv.len
      exact ⟨him9, by omega, by omega⟩
    · obtain ⟨e1, e2⟩ := prune_bad (pin := pin) h
      rw [hps] at e1
      rw [hgn] at e2
      obtain ⟨rfl, rfl⟩ := Prod.mk.inj e1
      subst e2
      exact ⟨by simp, by simp, by simp⟩
  have HPR2 := Lib.hid (fun W (hb : Below w1.heap.size w1 W) => refPrune_any A B D X0 c cb cd c0 l.length im.length sl.length pin.length nw now l im sl pin W rfl rfl rfl rfl (H1.out.fwd (ext_trans hB1 hb)) (H2.out.fwd (ext_trans hB1 hb)) (H3.out.fwd (ext_trans hB1 hb)) (H4.out.fwd (ext_trans hB1 hb)) HLM.out HSV.out hl hl4 HCB.out HCD.out)
  rw [hpe.out, hps, hgn] at HPR2
  have HPS := Lib.hid hps
  have HGN := Lib.hid hgn
  have HCX : Hid (∀ W, Below w1.heap.size w1 W → ((W.cell? ⟨m0, 0, none⟩ = some (.int .i64 nw) ∧ W.cell? ⟨m0, 1, none⟩ = some (.slice A l.length c)) ∧ (W.cell? ⟨m0 + 1, 0, none⟩ = some (.slice B im.length cb) ∧ W.cell? ⟨m0 + 1, 1, none⟩ = some (.slice D sl.length cd)) ∧ W.cell? ⟨m0 + 1 + 1, 0, none⟩ = some (.slice X0 pin.length c0) ∧ W.cell? ⟨m0 + 1 + 1, 1, none⟩ = some (.slice (some ⟨b, off, none⟩) 1 c1)) ∧ W.cell? ⟨b, off, none⟩ = some (.int .i64 now)) := fun W hb => by
    refine ⟨HC.out W (ext_trans hb1 hb), (hb.cell (p := ⟨b, off, none⟩) hbxl).trans (by simpa using gx)⟩
  have hw10 : Below w1.heap.size w1 w1 := Below.refl _ _
  go_upto_region 3 with (fail)
  clear p0 p1 p2 p3 p4 p5 p4' p5' gx hps hgn
  have hd1a : Below w1.heap.size w1 w1.drew := hw10.drew
  have hd2a : Below w1.heap.size w1 (w1.alloc (.cells #[.slice none 0 0, .slice none 0 0] 29)).drew := (ext_alloc hw10).drew
  have hrowa : ((w1.alloc (.cells #[.slice none 0 0, .slice none 0 0] 29)).drew).heap[w1.heap.size]? = some (.cells #[.slice none 0 0, .slice none 0 0] 29 (0, 0)) := heap_alloc_new _ _
  have hrla : w1.heap.size < ((w1.alloc (.cells #[.slice none 0 0, .slice none 0 0] 29)).drew).heap.size := (Array.getElem?_eq_some_iff.1 hrowa).1
  have hc0a := HCX.out w1.drew hd1a
  have hw1za := hw10.size
  go_cut [7, 8, 9] (fun v7 v8 v9 wx => ∃ (ba : Nat) (Ba Da G : Option Addr) (va da gc : Nat), v7 = .pointer (some ⟨ba, 0, none⟩) ∧ v8 = .slice G gone.length gc ∧ v9 = .int .i64 pe ∧ Hid (wx.heap[ba]? = some (.cells #[.slice Ba jm.length va, .slice Da ml.length da] 29 (0, 0))) ∧ Hid (ml.length ≤ da) ∧ Hid (SlAt (encSl encSec) wx (Bl wx.heap.size) Ba jm) ∧ Hid (SlAt encSnp wx (Bl wx.heap.size) Da ml) ∧ Hid (SlAt encInt wx (Bl wx.heap.size) G gone) ∧ Below w1.heap.size w1 wx)
  case first =>
    go_region_held3 (fun W => ((W.cell? ⟨m0, 0, none⟩ = some (.int .i64 nw) ∧ W.cell? ⟨m0, 1, none⟩ = some (.slice A l.length c)) ∧ (W.cell? ⟨m0 + 1, 0, none⟩ = some (.slice B im.length cb) ∧ W.cell? ⟨m0 + 1, 1, none⟩ = some (.slice D sl.length cd)) ∧ W.cell? ⟨m0 + 1 + 1, 0, none⟩ = some (.slice X0 pin.length c0) ∧ W.cell? ⟨m0 + 1 + 1, 1, none⟩ = some (.slice (some ⟨b, off, none⟩) 1 c1)) ∧ W.cell? ⟨b, off, none⟩ = some (.int .i64 now)) (first | exact hc0a | exact HCX.out _ hd2a | exact HCX.out _ hx5 | exact HCX.out _ (ext_alloc hx5) | exact HCX.out _ ((hx5.setCell (p := ⟨w1.heap.size, 0, none⟩) hw1za _).setCell (p := ⟨w1.heap.size, 1, none⟩) hw1za _) | go_keep) (first | (go_at_call 6; (with_reducible refine Calls.at_world w1.drew ?_); refine (HPR.out w1.drew hd1a).mono ?_; rintro e w5 he; obtain ⟨Ba, va, Da, da, G, gc, rfl, hda, h6, h7, h8, hb5⟩ := prAll he; have hx5 : Below w1.heap.size w1 w5 := ext_trans hd1a hb5; have hy5 : Below w1.heap.size w1 w5 := ext_trans (Below.refl _ _).drew hb5; have hway : True := trivial) | (go_at_call 6; (with_reducible refine Calls.at_world (w1.alloc (.cells #[.slice none 0 0, .slice none 0 0] 29)).drew ?_); refine (HPR.out _ hd2a).mono ?_; rintro e w5 he; obtain ⟨Ba, va, Da, da, G, gc, rfl, hda, h6, h7, h8, hb5⟩ := prAll he; have hx5 : Below w1.heap.size w1 w5 := ext_trans hd2a hb5; have hy5 : Below w1.heap.size w1 w5 := ext_trans (ext_alloc (Below.refl _ _)).drew hb5; have hway := (hb5.block w1.heap.size hrla).trans hrowa; obtain ⟨y0, y1, yf⟩ := blk2 hway) | fail)
    all_goals
      (try go_wp2)
      go_meet
      first
      | exact ⟨w5.heap.size, Ba, Da, G, va, da, gc, rfl, rfl, rfl, heap_alloc_new _ _, hda, (h6.more (S' := Bl w5.heap.size) (fun g hg => hg.2)).fwd (ext_alloc (Below.refl _ _)), (h7.more (S' := Bl w5.heap.size) (fun g hg => hg.2)).fwd (ext_alloc (Below.refl _ _)), (h8.more (S' := Bl w5.heap.size) (fun g hg => hg.2)).fwd (ext_alloc (Below.refl _ _)), ext_alloc hy5⟩
      | exact ⟨w1.heap.size, Ba, Da, G, va, da, gc, rfl, rfl, rfl, blk2_set hway (.slice Ba jm.length va) (.slice Da ml.length da), hda, (h6.nw2 (b := w1.heap.size) (lo := w1.heap.size) (fun g hg => ⟨by have := hg.1; omega, by have := hg.1; omega, hg.2⟩) (.slice Ba jm.length va) (.slice Da ml.length da)).more (fun g hg => hg.2), (h7.nw2 (b := w1.heap.size) (lo := w1.heap.size) (fun g hg => ⟨by have := hg.1; omega, by have := hg.1; omega, hg.2⟩) (.slice Ba jm.length va) (.slice Da ml.length da)).more (fun g hg => hg.2), (h8.nw2 (b := w1.heap.size) (lo := w1.heap.size) (fun g hg => ⟨by have := hg.1; omega, by have := hg.1; omega, hg.2⟩) (.slice Ba jm.length va) (.slice Da ml.length da)).more (fun g hg => hg.2), (hy5.setCell (p := ⟨w1.heap.size, 0, none⟩) (Nat.le_refl _) _).setCell (p := ⟨w1.heap.size, 1, none⟩) (Nat.le_refl _) _⟩
  case rest =>
  obtain ⟨ba, Ba, Da, G, va, da, gc, rfl, rfl, rfl, hr6h, _, HA1, HA2, HA3, hx6⟩ := hcut
  obtain ⟨W6, rfl⟩ : ∃ W6 : World, W6 = wc := ⟨_, rfl⟩
  have hbl6 : ba < W6.heap.size := (Array.getElem?_eq_some_iff.1 hr6h.out).1
  go_upto_region 4 with (fail)
  have hd1b : Below w1.heap.size w1 W6.drew := hx6.drew
  have hd2b : Below w1.heap.size w1 (W6.alloc (.cells #[.slice none 0 0, .slice none 0 0] 29)).drew := (ext_alloc hx6).drew
  have hrowb : ((W6.alloc (.cells #[.slice none 0 0, .slice none 0 0] 29)).drew).heap[W6.heap.size]? = some (.cells #[.slice none 0 0, .slice none 0 0] 29 (0, 0)) := heap_alloc_new _ _
  have hrlb : W6.heap.size < ((W6.alloc (.cells #[.slice none 0 0, .slice none 0 0] 29)).drew).heap.size := (Array.getElem?_eq_some_iff.1 hrowb).1
  have hc0b := HCX.out W6.drew hd1b
  have hw1zb := hx6.size
  go_cut [10, 11, 12] (fun v7 v8 v9 wx => ∃ (ba : Nat) (Ba Da G : Option Addr) (va da gc : Nat), v7 = .pointer (some ⟨ba, 0, none⟩) ∧ v8 = .slice G gone.length gc ∧ v9 = .int .i64 pe ∧ Hid (wx.heap[ba]? = some (.cells #[.slice Ba jm.length va, .slice Da ml.length da] 29 (0, 0))) ∧ Hid (ml.length ≤ da) ∧ Hid (SlAt (encSl encSec) wx (Bl wx.heap.size) Ba jm) ∧ Hid (SlAt encSnp wx (Bl wx.heap.size) Da ml) ∧ Hid (SlAt encInt wx (Bl wx.heap.size) G gone) ∧ Below W6.heap.size W6 wx)
  case first =>
    go_region_held3 (fun W => ((W.cell? ⟨m0, 0, none⟩ = some (.int .i64 nw) ∧ W.cell? ⟨m0, 1, none⟩ = some (.slice A l.length c)) ∧ (W.cell? ⟨m0 + 1, 0, none⟩ = some (.slice B im.length cb) ∧ W.cell? ⟨m0 + 1, 1, none⟩ = some (.slice D sl.length cd)) ∧ W.cell? ⟨m0 + 1 + 1, 0, none⟩ = some (.slice X0 pin.length c0) ∧ W.cell? ⟨m0 + 1 + 1, 1, none⟩ = some (.slice (some ⟨b, off, none⟩) 1 c1)) ∧ W.cell? ⟨b, off, none⟩ = some (.int .i64 now)) (first | exact hc0b | exact HCX.out _ hd2b | exact HCX.out _ hx5 | exact HCX.out _ (ext_alloc hx5) | exact HCX.out _ ((hx5.setCell (p := ⟨W6.heap.size, 0, none⟩) hw1zb _).setCell (p := ⟨W6.heap.size, 1, none⟩) hw1zb _) | go_keep) (first | (go_at_call 7; (with_reducible refine Calls.at_world W6.drew ?_); refine (HPR2.out W6.drew hd1b).mono ?_; rintro e w5 he; obtain ⟨Ba, va, Da, da, G, gc, rfl, hda, h6, h7, h8, hb5⟩ := prAll he; have hx5 : Below w1.heap.size w1 w5 := ext_trans hd1b hb5; have hy5 : Below W6.heap.size W6 w5 := ext_trans (Below.refl _ _).drew hb5; have hway : True := trivial) | (go_at_call 7; (with_reducible refine Calls.at_world (W6.alloc (.cells #[.slice none 0 0, .slice none 0 0] 29)).drew ?_); refine (HPR2.out _ hd2b).mono ?_; rintro e w5 he; obtain ⟨Ba, va, Da, da, G, gc, rfl, hda, h6, h7, h8, hb5⟩ := prAll he; have hx5 : Below w1.heap.size w1 w5 := ext_trans hd2b hb5; have hy5 : Below W6.heap.size W6 w5 := ext_trans (ext_alloc (Below.refl _ _)).drew hb5; have hway := (hb5.block W6.heap.size hrlb).trans hrowb; obtain ⟨y0, y1, yf⟩ := blk2 hway) | fail)
    all_goals
      (try go_wp2)
      go_meet
      first
      | exact ⟨w5.heap.size, Ba, Da, G, va, da, gc, rfl, rfl, rfl, heap_alloc_new _ _, hda, (h6.more (S' := Bl w5.heap.size) (fun g hg => hg.2)).fwd (ext_alloc (Below.refl _ _)), (h7.more (S' := Bl w5.heap.size) (fun g hg => hg.2)).fwd (ext_alloc (Below.refl _ _)), (h8.more (S' := Bl w5.heap.size) (fun g hg => hg.2)).fwd (ext_alloc (Below.refl _ _)), ext_alloc hy5⟩
      | exact ⟨W6.heap.size, Ba, Da, G, va, da, gc, rfl, rfl, rfl, blk2_set hway (.slice Ba jm.length va) (.slice Da ml.length da), hda, (h6.nw2 (b := W6.heap.size) (lo := W6.heap.size) (fun g hg => ⟨by have := hg.1; omega, by have := hg.1; omega, hg.2⟩) (.slice Ba jm.length va) (.slice Da ml.length da)).more (fun g hg => hg.2), (h7.nw2 (b := W6.heap.size) (lo := W6.heap.size) (fun g hg => ⟨by have := hg.1; omega, by have := hg.1; omega, hg.2⟩) (.slice Ba jm.length va) (.slice Da ml.length da)).more (fun g hg => hg.2), (h8.nw2 (b := W6.heap.size) (lo := W6.heap.size) (fun g hg => ⟨by have := hg.1; omega, by have := hg.1; omega, hg.2⟩) (.slice Ba jm.length va) (.slice Da ml.length da)).more (fun g hg => hg.2), (hy5.setCell (p := ⟨W6.heap.size, 0, none⟩) (Nat.le_refl _) _).setCell (p := ⟨W6.heap.size, 1, none⟩) (Nat.le_refl _) _⟩
  case rest =>
  obtain ⟨bb, Bb, Db, Gb, vb, db, gb, rfl, rfl, rfl, hrAh, _, HB1', HB2', HB3', hxA⟩ := hcut
  obtain ⟨WA, rfl⟩ : ∃ WA : World, WA = wc := ⟨_, rfl⟩
  have hr6A := (hxA.block ba hbl6).trans hr6h.out
  have hBA : Below w.heap.size w WA := ext_trans hB1 (ext_trans hx6 hxA)
  have HSM := Lib.hid (snSame_true Ba Da Bb Db va da vb db jm.length ml.length jm ml WA rfl rfl (HA1.out.fwd hxA) (HA2.out.fwd hxA) HB1'.out HB2'.out (by have := HLEN.out; omega) (by have := HLEN.out; omega))
  have HA3' := Lib.hid (HA3.out.fwd hxA)
  obtain ⟨q0, q1, _⟩ := blk2 hr6A
  obtain ⟨q2, q3, _⟩ := blk2 hrAh.out
  have hpp : (pe == pe) = true := by simp
  clear hr6A
  go_wp2_with fail
  refine HSM.out.mono ?_
  rintro e wb ⟨rfl, hbb1⟩
  have HEQ := Lib.hid (eqInts_any G Gb gc gb gone.length gone.length _ _ gone gone true wb rfl rfl (by simp) (HA3'.out.fwd hbb1) (HB3'.out.fwd hbb1) (by have := HLEN.out; omega) (by have := HLEN.out; omega))
  have hBb := ext_trans hBA hbb1
  clear q0 q1 q2 q3 HSM
  go_wp2_with fail
  refine HEQ.out.mono ?_
  rintro e wd ⟨rfl, hdd⟩
  have hBd : Below w.heap.size w wd := ext_trans hBb (hdd.below _)
  go_wp2_with fail
  refine (awake38_any _).mono ?_
  rintro e wz ⟨rfl, hbz⟩
  go_wp2
  go_ret
  exact ⟨rfl, ext_trans hBd hbz⟩
end Go.Proofs.YtnkmklnlaepdeaaGreat
