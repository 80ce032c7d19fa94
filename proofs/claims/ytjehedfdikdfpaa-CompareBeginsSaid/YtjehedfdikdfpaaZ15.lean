/-
  ref44.Same, Few, FewMessage: the walks.; The law CompareAnswers: the walk.; How a tree reads; closed facts.
-/
import Derived.Test.YtjehedfdikdfpaaZ02
import Derived.Test.YtjehedfdikdfpaaZ03
import Derived.Test.YtjehedfdikdfpaaZ06
import Derived.Test.YtjehedfdikdfpaaZ07
import Derived.Test.YtjehedfdikdfpaaZ12
import Derived.Test.YtjehedfdikdfpaaZ14
set_option linter.unusedVariables false
set_option linter.unusedSimpArgs false
set_option linter.unusedSectionVars false
set_option linter.unnecessarySimpa false
namespace Go.Proofs.Ytjehedfdikdfpaa
open Go.RowKit Go.Shelf
attribute [local go_sem] Oper.semAt_some

set_option maxHeartbeats 4000000 in
set_option maxRecDepth 100000 in
theorem sameWk_true (x : Wk) (v v' : Value) (w : World) (h : WkVal w (Bl w.heap.size) x v) (h' : WkVal w (Bl w.heap.size) x v') :
    Calls Try.prog 16 #[v, v'] w fun e w' => e = .returned (.bool true) ∧ Below w.heap.size w w' := by
  obtain ⟨⟨s, lf, l⟩, p, lv, f, sent, done⟩ := x
  obtain ⟨A, c, P, pc, F, fc, rfl, ⟨a1, a2, a3⟩, ⟨b1, b2, b3⟩, ⟨f1, f2, f3⟩, _⟩ := h
  obtain ⟨A', c', P', pc', F', fc', rfl, ⟨a1', a2', a3'⟩, ⟨b1', b2', b3'⟩, ⟨f1', f2', f3'⟩, _⟩ := h'
  simp only at a1 a2 a3 b1 b2 b3 f1 f2 f3 a1' a2' a3' b1' b2' b3' f1' f2' f3' ⊢
  obtain ⟨n0, hn0⟩ : ∃ n0, w.heap.size = n0 := ⟨_, rfl⟩
  obtain ⟨W0, hW0⟩ : ∃ W0, (w.alloc (.cells #[.int .i64 s, .int .i64 lf, .slice A l.length c, .slice P p.length pc, .int .i64 lv, .slice F f.length fc, .int .i64 sent, .bool done] 27)).alloc (.cells #[.int .i64 s, .int .i64 lf, .slice A' l.length c', .slice P' p.length pc', .int .i64 lv, .slice F' f.length fc', .int .i64 sent, .bool done] 27) = W0 := ⟨_, rfl⟩
  have hB0 : Below n0 w W0 := by rw [← hW0, ← hn0]; exact ext_alloc (ext_alloc (Below.refl _ _))
  have hr0 : W0.heap[n0]? = some (.cells #[.int .i64 s, .int .i64 lf, .slice A l.length c, .slice P p.length pc, .int .i64 lv, .slice F f.length fc, .int .i64 sent, .bool done] 27 (0, 0)) := by
    rw [← hW0, ← hn0]; exact (Below.heap_alloc _ _ _ (by simp)).trans (heap_alloc_new _ _)
  have hr1 : W0.heap[n0 + 1]? = some (.cells #[.int .i64 s, .int .i64 lf, .slice A' l.length c', .slice P' p.length pc', .int .i64 lv, .slice F' f.length fc', .int .i64 sent, .bool done] 27 (0, 0)) := by
    rw [← hW0, ← hn0]; exact heap_new2 _ _ _
  have hz0 : W0.heap.size = n0 + 2 := by rw [← hW0, ← hn0]; simp
  obtain ⟨n1, hn1⟩ : ∃ n1, W0.heap.size = n1 := ⟨_, rfl⟩
  have hn01 : n0 + 2 ≤ n1 := by omega
  have HR1 : Hid (∀ W, Below n1 W0 W → W.heap[n0]? = some (.cells #[.int .i64 s, .int .i64 lf, .slice A l.length c, .slice P p.length pc, .int .i64 lv, .slice F f.length fc, .int .i64 sent, .bool done] 27 (0, 0))) := fun W hb => (hb.block n0 (by omega)).trans hr0
  have HR2 : Hid (∀ W, Below n1 W0 W → W.heap[n0 + 1]? = some (.cells #[.int .i64 s, .int .i64 lf, .slice A' l.length c', .slice P' p.length pc', .int .i64 lv, .slice F' f.length fc', .int .i64 sent, .bool done] 27 (0, 0))) := fun W hb => (hb.block (n0 + 1) (by omega)).trans hr1
  have up : ∀ {α : Type} {E : Enc α} {A : Option Addr} {l : List α}, SlAt E w (Bl w.heap.size) A l → ∀ W, Below n1 W0 W → SlAt E W (Bl W.heap.size) A l := fun h W hb => by
    rw [hn0] at h
    exact (h.blk (fun g hg => (hb.block g (by have : g < n0 := hg; omega)).trans (hB0.block g hg))).more (fun g hg => by have : g < n0 := hg; have := hb.size; show g < W.heap.size; omega)
  have HA := Lib.hid (up a3)
  have HA' := Lib.hid (up a3')
  have HP := Lib.hid (up b3)
  have HP' := Lib.hid (up b3')
  have HF := Lib.hid (up f3)
  have HF' := Lib.hid (up f3')
  have HB0 : Hid (Below w.heap.size w W0) := by rw [hn0]; exact hB0
  have HN0 := Lib.hid hn0
  have hpl : p.length ≤ 9223372036854775807 := by unfold maxLen at b2; omega
  have hfl : f.length ≤ 9223372036854775807 := by unfold maxLen at f2; omega
  have hll : l.length ≤ 9223372036854775807 := by unfold maxLen at a2; omega
  have hdd : (done == done) = true := by simp
  obtain ⟨p0, p1, p2, p3, p4, p5, p6, p7, _⟩ := blk8 (HR1.out W0 (Below.refl _ _))
  obtain ⟨q0, q1, q2, q3, q4, q5, q6, q7, _⟩ := blk8 (HR2.out W0 (Below.refl _ _))
  have hBr := Below.refl n1 W0
  clear a3 a3' b3 b3' f3 f3' up hr0 hr1 hz0
  go_enter Try.func16, Try.ntmps16
  go_wp2_with fail
  clear p0 p1 p2 p3 p4 p5 p6 p7 q0 q1 q2 q3 q4 q5 q6 q7 hW0
  go_loopw [5] (fun i wr => ∃ k : Nat, k ≤ p.length ∧ i = .int .i64 k ∧ Below n1 W0 wr) (fun i _ => p.length - (intOf i).toNat)
  case atStart => exact ⟨0, by omega, rfl, by assumption⟩
  case round =>
    obtain ⟨wo, rfl⟩ : ∃ wo : World, wo = wr := ⟨_, rfl⟩
    obtain ⟨k, hk, rfl, hB⟩ := hrel
    obtain ⟨p0, p1, p2, p3, p4, p5, p6, p7, _⟩ := blk8 (HR1.out wo hB)
    obtain ⟨q0, q1, q2, q3, q4, q5, q6, q7, _⟩ := blk8 (HR2.out wo hB)
    by_cases hlt : k < p.length
    · obtain ⟨b, off, rfl, hb, g0, g1, _⟩ := (HP.out wo hB).ext hlt
      obtain ⟨b', off', rfl, hb', k0, k1, _⟩ := (HP'.out wo hB).ext hlt
      obtain ⟨x, hx⟩ : ∃ x, p[k] = x := ⟨_, rfl⟩
      rw [hx] at g0 g1 k0 k1
      have HE := fun W => run_eq_ext11 W x.1 x.2 x.1 x.2
      have hxx : ((x.1, x.2) == (x.1, x.2)) = true := by simp
      have hnn : (0 : Int) ≤ k := by omega
      have hki : (k : Int) < p.length := by omega
      clear hx
      go_wp2_with fail
      go_quiet (fail)
      generalize hWq : wo.drewN _ = wq
      have hdq : Drew wo wq := ⟨_, hWq.symm⟩
      clear hWq
      go_wp2_with fail
      go_roundw
      case rel => exact ⟨k + 1, hlt, by go_num, hB.trans (hdq.below _)⟩
      case measure => simp [intOf]; omega
    · have hki : ¬ (k : Int) < p.length := by omega
      skip
      go_wp2_with fail
      clear p0 p1 p2 p3 p4 p5 p6 p7 q0 q1 q2 q3 q4 q5 q6 q7 hBr
      go_loopw [6] (fun i wr => ∃ k : Nat, k ≤ f.length ∧ i = .int .i64 k ∧ Below n1 W0 wr) (fun i _ => f.length - (intOf i).toNat)
      case atStart => exact ⟨0, by omega, rfl, by assumption⟩
      case round =>
        obtain ⟨wo, rfl⟩ : ∃ wo : World, wo = wr := ⟨_, rfl⟩
        obtain ⟨k, hk, rfl, hB⟩ := hrel
        obtain ⟨p0, p1, p2, p3, p4, p5, p6, p7, _⟩ := blk8 (HR1.out wo hB)
        obtain ⟨q0, q1, q2, q3, q4, q5, q6, q7, _⟩ := blk8 (HR2.out wo hB)
        by_cases hlt : k < f.length
        · obtain ⟨b, off, rfl, hb, g0, g1, _⟩ := (HF.out wo hB).ext hlt
          obtain ⟨b', off', rfl, hb', k0, k1, _⟩ := (HF'.out wo hB).ext hlt
          obtain ⟨x, hx⟩ : ∃ x, f[k] = x := ⟨_, rfl⟩
          rw [hx] at g0 g1 k0 k1
          have HE := fun W => run_eq_ext11 W x.1 x.2 x.1 x.2
          have hxx : ((x.1, x.2) == (x.1, x.2)) = true := by simp
          have hnn : (0 : Int) ≤ k := by omega
          have hki : (k : Int) < f.length := by omega
          clear hx
          go_wp2_with fail
          go_quiet (fail)
          generalize hWq : wo.drewN _ = wq
          have hdq : Drew wo wq := ⟨_, hWq.symm⟩
          clear hWq
          go_wp2_with fail
          go_roundw
          case rel => exact ⟨k + 1, hlt, by go_num, hB.trans (hdq.below _)⟩
          case measure => simp [intOf]; omega
        · have hki : ¬ (k : Int) < f.length := by omega
          skip
          have HS := Lib.hid (same_any s lf s lf A A' c c' l.length l.length l l true wo rfl rfl (by simp) (HA.out wo hB) (HA'.out wo hB) hll hll)
          have hbo : Hid (Below w.heap.size w wo) := HB0.out.trans (hB.mono (by have := HN0.out; omega))
          go_wp2_with fail
          refine HS.out.mono ?_
          rintro e w3 ⟨rfl, hb3⟩
          have hB3 : Below n1 W0 w3 := hB.trans (hb3.mono (by have := hB.size; omega))
          clear p0 p1 p2 p3 p4 p5 p6 p7 q0 q1 q2 q3 q4 q5 q6 q7 HS
          obtain ⟨p0, p1, p2, p3, p4, p5, p6, p7, _⟩ := blk8 (HR1.out w3 hB3)
          obtain ⟨q0, q1, q2, q3, q4, q5, q6, q7, _⟩ := blk8 (HR2.out w3 hB3)
          go_wp2_with fail
          go_ret
          exact ⟨by first | trivial | rfl | simp, HB0.out.trans (hB3.mono (by have := HN0.out; omega))⟩
def fewW (x : Wk) : Bool := fewT x.1 && (decide (x.2.1.length ≤ 60) && decide (x.2.2.2.1.length ≤ 60))
def fewM (m : Msg) : Bool := decide (m.2.2.2.2.2.2.1.length ≤ 200) && decide (m.2.2.2.2.2.2.2.length ≤ 2000)
set_option maxHeartbeats 2000000 in
theorem fewWk_any (x : Wk) (v : Value) (w : World) (r : Bool) (h : WkVal w (Bl w.heap.size) x v) (hr : fewW x = r) :
    Calls Try.prog 12 #[v] w fun e w' => e = .returned (.bool r) ∧ Below w.heap.size w w' := by
  obtain ⟨⟨s, lf, l⟩, p, lv, f, sent, done⟩ := x
  obtain ⟨A, c, P, pc, F, fc, rfl, ⟨a1, a2, a3⟩, _, _, _⟩ := h
  simp only at a1 a2 a3 ⊢
  unfold fewW at hr
  simp only at hr
  obtain ⟨n0, hn0⟩ : ∃ n0, w.heap.size = n0 := ⟨_, rfl⟩
  obtain ⟨W0, hW0⟩ : ∃ W0, w.alloc (.cells #[.int .i64 s, .int .i64 lf, .slice A l.length c, .slice P p.length pc, .int .i64 lv, .slice F f.length fc, .int .i64 sent, .bool done] 27) = W0 := ⟨_, rfl⟩
  have hB0 : Below n0 w W0 := by rw [← hW0, ← hn0]; exact ext_alloc (Below.refl _ _)
  have hr0 : W0.heap[n0]? = some (.cells #[.int .i64 s, .int .i64 lf, .slice A l.length c, .slice P p.length pc, .int .i64 lv, .slice F f.length fc, .int .i64 sent, .bool done] 27 (0, 0)) := by
    rw [← hW0, ← hn0]; exact heap_alloc_new _ _
  have hz0 : n0 < W0.heap.size := by rw [← hW0, ← hn0]; simp
  obtain ⟨q, hq⟩ : ∃ q, fewT (s, lf, l) = q := ⟨_, rfl⟩
  rw [hq] at hr
  have HFW := Lib.hid (few_any s lf A c l.length l q W0 rfl hq ((a3.below (w' := W0) (by rw [hn0]; exact hB0)).more (fun g hg => Nat.lt_of_lt_of_le (show g < n0 by rw [← hn0]; exact hg) (Nat.le_of_lt hz0))) (by unfold maxLen at a2; omega))
  have HR := Lib.hid hr
  have HR0 : Hid (∀ W, Below W0.heap.size W0 W → W.heap[n0]? = some (.cells #[.int .i64 s, .int .i64 lf, .slice A l.length c, .slice P p.length pc, .int .i64 lv, .slice F f.length fc, .int .i64 sent, .bool done] 27 (0, 0))) := fun W hb => (hb.block n0 hz0).trans hr0
  have HB0 : Hid (Below w.heap.size w W0) := by rw [hn0]; exact hB0
  have HZ0 : Hid (w.heap.size ≤ W0.heap.size) := by rw [Hid]; omega
  obtain ⟨p0, p1, p2, p3, p4, p5, p6, p7, _⟩ := blk8 hr0
  clear a3 hr0 hr hq hz0
  go_enter Try.func12, Try.ntmps12
  go_wp2_with fail
  refine HFW.out.mono ?_
  rintro e w3 ⟨rfl, hb3⟩
  clear p0 p1 p2 p3 p4 p5 p6 p7 hW0
  obtain ⟨p0, p1, p2, p3, p4, p5, p6, p7, _⟩ := blk8 (HR0.out w3 hb3)
  have hBf : Hid (Below w.heap.size w w3) := HB0.out.trans (hb3.mono HZ0.out)
  cases q with
  | false =>
    have hE : Hid (false = r) := by rw [Hid, ← HR.out]; rfl
    go_wp2_with fail
    go_ret
    exact ⟨ret_bool (by first | exact hE.out | (rw [← hE.out]; simp; omega)), by first | exact hBf.out | (rw [← hn0]; exact hBf.out)⟩
  | true =>
    by_cases h1 : p.length ≤ 60
    · have h1' : (p.length : Int) ≤ 60 := by omega
      by_cases h2 : f.length ≤ 60
      · have h2' : (f.length : Int) ≤ 60 := by omega
        have hE : Hid (true = r) := by rw [Hid, ← HR.out]; simp [h1, h2]
        clear h1 h2
        go_wp2_with fail
        go_ret
        exact ⟨ret_bool (by first | exact hE.out | (rw [← hE.out]; simp; omega)), by first | exact hBf.out | (rw [← hn0]; exact hBf.out)⟩
      · have h2' : ¬ (f.length : Int) ≤ 60 := by omega
        have hE : Hid (false = r) := by rw [Hid, ← HR.out]; simp [h2]
        clear h1 h2
        go_wp2_with fail
        go_ret
        exact ⟨ret_bool (by first | exact hE.out | (rw [← hE.out]; simp; omega)), by first | exact hBf.out | (rw [← hn0]; exact hBf.out)⟩
    · have h1' : ¬ (p.length : Int) ≤ 60 := by omega
      have hE : Hid (false = r) := by rw [Hid, ← HR.out]; simp [h1]
      clear h1
      go_wp2_with fail
      go_ret
      exact ⟨ret_bool (by first | exact hE.out | (rw [← hE.out]; simp; omega)), by first | exact hBf.out | (rw [← hn0]; exact hBf.out)⟩
theorem fewMsg_any (x : Msg) (v : Value) (w : World) (r : Bool) (h : MsgVal w (Bl w.heap.size) x v) (hr : fewM x = r) :
    Calls Try.prog 20 #[v] w fun e w' => e = .returned (.bool r) ∧ Below w.heap.size w w' := by
  obtain ⟨x0, x1, x2, x3, x4, x5, vs, bs⟩ := x
  obtain ⟨V, vc, B, bc, rfl, _⟩ := h
  simp only
  unfold fewM at hr
  simp only at hr
  obtain ⟨W0, hW0⟩ : ∃ W0, w.alloc (.cells #[.int .i64 x0, .int .i64 x1, .int .i64 x2, .int .i64 x3, .int .i64 x4, .int .i64 x5, .slice V vs.length vc, .slice B bs.length bc] 45) = W0 := ⟨_, rfl⟩
  have hB0 : Below w.heap.size w W0 := by rw [← hW0]; exact ext_alloc (Below.refl _ _)
  obtain ⟨p0, p1, p2, p3, p4, p5, p6, p7, _⟩ := blk8 (show W0.heap[w.heap.size]? = _ by rw [← hW0]; exact heap_alloc_new _ _)
  have HR := Lib.hid hr
  clear hr
  go_enter Try.func20, Try.ntmps20
  by_cases h1 : vs.length ≤ 200
  · have h1' : (vs.length : Int) ≤ 200 := by omega
    by_cases h2 : bs.length ≤ 2000
    · have h2' : (bs.length : Int) ≤ 2000 := by omega
      have hE : Hid (true = r) := by rw [Hid, ← HR.out]; simp [h1, h2]
      clear h1 h2
      go_wp2_with fail
      go_ret
      exact ⟨ret_bool (by first | exact hE.out | (rw [← hE.out]; simp; omega)), hB0⟩
    · have h2' : ¬ (bs.length : Int) ≤ 2000 := by omega
      have hE : Hid (false = r) := by rw [Hid, ← HR.out]; simp [h2]
      clear h1 h2
      go_wp2_with fail
      go_ret
      exact ⟨ret_bool (by first | exact hE.out | (rw [← hE.out]; simp; omega)), hB0⟩
  · have h1' : ¬ (vs.length : Int) ≤ 200 := by omega
    have hE : Hid (false = r) := by rw [Hid, ← HR.out]; simp [h1]
    clear h1
    go_wp2_with fail
    go_ret
    exact ⟨ret_bool (by first | exact hE.out | (rw [← hE.out]; simp; omega)), hB0⟩
end Go.Proofs.Ytjehedfdikdfpaa
namespace Go.Proofs.Ytjehedfdikdfpaa
open Go.RowKit Go.Shelf
attribute [local go_sem] Oper.semAt_some

theorem fewT_ok {s lf : Int} {l : List (List Int)} (h : fewT (s, lf, l) = true) : l.length ≤ 12 ∧ ∀ row ∈ l, row.length ≤ 1000000 := by
  simp [fewT] at h
  exact ⟨h.1.1, fun row hr => by have := h.2 row hr; omega⟩
theorem MsgVal.fwd {w w' : World} {x : Msg} {v : Value} (h : MsgVal w (Bl w.heap.size) x v) (hb : Below w.heap.size w w') : MsgVal w' (Bl w'.heap.size) x v := h.keep (fun g hg => hb.block g hg) (fun g hg => Nat.lt_of_lt_of_le hg hb.size)
set_option maxHeartbeats 8000000 in
set_option maxRecDepth 100000 in
theorem answers44_any (s lf : Int) (A : Option Addr) (c : Nat) (l : List (List Int)) (m : Msg) (v : Value) (w : World) (h1 : SlAt (encSl encU64) w (Bl w.heap.size) A l) (hc : l.length ≤ c ∧ c ≤ maxLen) (hI : I64 s ∧ I64 lf) (hm : MsgVal w (Bl w.heap.size) m v) :
    Calls Try.prog 4 #[.agg #[.int .i64 s, .int .i64 lf, .slice A l.length c], v] w (LawRet w) := by
  have hm' := hm
  obtain ⟨k0, k1, k2, k3, k4, k5, vs, bs⟩ := m
  obtain ⟨V, vc, B, bc, rfl, hi, ⟨v1, v2, v3⟩, b1, b2, b3⟩ := hm
  simp only at hi v1 v2 v3 b1 b2 b3 hm' ⊢
  obtain ⟨n0, hn0⟩ : ∃ n0, w.heap.size = n0 := ⟨_, rfl⟩
  obtain ⟨W0, hW0⟩ : ∃ W0, (w.alloc (.cells #[.int .i64 s, .int .i64 lf, .slice A l.length c] 24)).alloc (.cells #[.int .i64 k0, .int .i64 k1, .int .i64 k2, .int .i64 k3, .int .i64 k4, .int .i64 k5, .slice V vs.length vc, .slice B bs.length bc] 45) = W0 := ⟨_, rfl⟩
  have hB0 : Below n0 w W0 := by rw [← hW0, ← hn0]; exact ext_alloc (ext_alloc (Below.refl _ _))
  have hr0 : W0.heap[n0]? = some (.cells #[.int .i64 s, .int .i64 lf, .slice A l.length c] 24 (0, 0)) := by
    rw [← hW0, ← hn0]; exact (Below.heap_alloc _ _ _ (by simp)).trans (heap_alloc_new _ _)
  have hr1 : W0.heap[n0 + 1]? = some (.cells #[.int .i64 k0, .int .i64 k1, .int .i64 k2, .int .i64 k3, .int .i64 k4, .int .i64 k5, .slice V vs.length vc, .slice B bs.length bc] 45 (0, 0)) := by
    rw [← hW0, ← hn0]; exact heap_new2 _ _ _
  have hz0 : W0.heap.size = n0 + 2 := by rw [← hW0, ← hn0]; simp
  obtain ⟨n1, hn1⟩ : ∃ n1, W0.heap.size = n1 := ⟨_, rfl⟩
  have hn01 : n0 + 2 ≤ n1 := by omega
  have HALL : Hid (∀ W, Below n1 W0 W → (W.heap[n0]? = some (.cells #[.int .i64 s, .int .i64 lf, .slice A l.length c] 24 (0, 0)) ∧ W.heap[n0 + 1]? = some (.cells #[.int .i64 k0, .int .i64 k1, .int .i64 k2, .int .i64 k3, .int .i64 k4, .int .i64 k5, .slice V vs.length vc, .slice B bs.length bc] 45 (0, 0))) ∧ SlAt (encSl encU64) W (Bl W.heap.size) A l ∧ SlAt encInt W (Bl W.heap.size) V vs ∧ MsgVal W (Bl W.heap.size) (k0, k1, k2, k3, k4, k5, vs, bs) (.agg #[.int .i64 k0, .int .i64 k1, .int .i64 k2, .int .i64 k3, .int .i64 k4, .int .i64 k5, .slice V vs.length vc, .slice B bs.length bc]) ∧ Below w.heap.size w W) := fun W hb => by
    have hbw : Below w.heap.size w W := by rw [hn0]; exact hB0.trans (hb.mono (by omega))
    exact ⟨⟨(hb.block n0 (by omega)).trans hr0, (hb.block (n0 + 1) (by omega)).trans hr1⟩, h1.fwd hbw, v3.fwd hbw, hm'.fwd hbw, hbw⟩
  obtain ⟨q, hq⟩ : ∃ q, fewT (s, lf, l) = q := ⟨_, rfl⟩
  obtain ⟨q2, hq2⟩ : ∃ q2, fewM (k0, k1, k2, k3, k4, k5, vs, bs) = q2 := ⟨_, rfl⟩
  have hall0 := HALL.out W0 (Below.refl _ _)
  have HF1 := Lib.hid (few_any s lf A c l.length l q W0 rfl hq hall0.2.1 (by unfold maxLen at hc; omega))
  have HF2 := Lib.hid (fun W (hb : Below n1 W0 W) => fewMsg_any (k0, k1, k2, k3, k4, k5, vs, bs) _ W q2 (HALL.out W hb).2.2.2.1 hq2)
  have HQ := Lib.hid hq
  have HQ2 := Lib.hid hq2
  obtain ⟨p0, p1, p2, _⟩ := blk3 hall0.1.1
  clear h1 hm' v3 b3 hr0 hr1 hz0 hq hq2 hall0
  go_enter Try.func4, Try.ntmps4
  go_wp2_with fail
  refine HF1.out.mono ?_
  rintro e w1 ⟨rfl, hb1⟩
  rw [hn1] at hb1
  clear p0 p1 p2 hW0 HF1
  cases q with
  | false =>
    go_wp2_with fail
    refine (awake44_any w1).mono ?_
    rintro e wz ⟨rfl, hbz⟩
    go_wp2_with fail
    go_ret
    exact ⟨by first | trivial | rfl | simp, ((HALL.out w1 hb1).2.2.2.2).trans (hbz.mono (((HALL.out w1 hb1).2.2.2.2)).size)⟩
  | true =>
    obtain ⟨z0, z1, z2, z3, z4, z5, z6, z7, _⟩ := blk8 (HALL.out w1 hb1).1.2
    have HF3 := Lib.hid (HF2.out w1 hb1)
    go_wp2_with fail
    refine HF3.out.mono ?_
    rintro e w2 ⟨rfl, hb2⟩
    have hb02 : Below n1 W0 w2 := hb1.trans (hb2.mono (by have := hb1.size; omega))
    clear z0 z1 z2 z3 z4 z5 z6 z7 HF3 HF2
    cases q2 with
    | false =>
      go_wp2_with fail
      refine (awake44_any w2).mono ?_
      rintro e wz ⟨rfl, hbz⟩
      go_wp2_with fail
      go_ret
      exact ⟨by first | trivial | rfl | simp, ((HALL.out w2 hb02).2.2.2.2).trans (hbz.mono (((HALL.out w2 hb02).2.2.2.2)).size)⟩
    | true =>
      obtain ⟨hl12, _⟩ := fewT_ok HQ.out
      have hvl : vs.length ≤ 200 := by have := HQ2.out; simp [fewM] at this; exact this.1
      obtain ⟨X, hX⟩ : ∃ X, ansV (s, lf, l) (k0, k1, k2, k3, k4, k5, vs, bs) = X := ⟨_, rfl⟩
      obtain ⟨r, hr⟩ : ∃ r, ansE (s, lf, l) (k0, k1, k2, k3, k4, k5, vs, bs) = r := ⟨_, rfl⟩
      have HA1 := Lib.hid (fun W (hb : Below n1 W0 W) => answer_any s lf k0 k1 k2 k3 k4 k5 A V B c l.length vs.length vc bs.length bc l vs bs W rfl rfl rfl (HALL.out W hb).2.1 (HALL.out W hb).2.2.1 (by omega) hc (by omega) ⟨v1, v2⟩ hI ⟨hi.2.1, hi.2.2.1, hi.2.2.2.1⟩)
      have HA2 := Lib.hid (fun W (hb : Below n1 W0 W) => refAnswer_any s lf k0 k1 k2 k3 k4 k5 A V B c l.length vs.length vc bs.length bc l vs bs W rfl rfl rfl (HALL.out W hb).2.1 (HALL.out W hb).2.2.1 (by omega) hc (by omega) ⟨v1, v2⟩ hI ⟨hi.2.1, hi.2.2.1, hi.2.2.2.1⟩)
      rw [hX, hr] at HA1 HA2
      clear hX hr
      have HA1' := Lib.hid (HA1.out w2 hb02)
      obtain ⟨⟨p0, p1, p2, _⟩, z0, z1, z2, z3, z4, z5, z6, z7, _⟩ := And.intro (blk3 (HALL.out w2 hb02).1.1) (blk8 (HALL.out w2 hb02).1.2)
      go_wp2_with fail
      refine HA1'.out.mono ?_
      rintro e w3 ⟨v3, rfl, ⟨V3, vc3, B3, bc3, rfl, hm3⟩, hb3⟩
      have HV3 : Hid (∀ W, Below w3.heap.size w3 W → MsgVal W (Bl W.heap.size) X (.agg #[.int .i64 X.1, .int .i64 X.2.1, .int .i64 X.2.2.1, .int .i64 X.2.2.2.1, .int .i64 X.2.2.2.2.1, .int .i64 X.2.2.2.2.2.1, .slice V3 X.2.2.2.2.2.2.1.length vc3, .slice B3 X.2.2.2.2.2.2.2.length bc3])) := fun W hb => (MsgVal.keep (S' := Bl w3.heap.size) ⟨V3, vc3, B3, bc3, rfl, hm3⟩ (fun _ _ => rfl) (fun g hg => hg.2)).fwd hb
      clear p0 p1 p2 z0 z1 z2 z3 z4 z5 z6 z7 HA1' HA1
      obtain ⟨n3, hn3⟩ : ∃ n3, w3.heap.size = n3 := ⟨_, rfl⟩
      obtain ⟨W4, hW4⟩ : ∃ W4, w3.alloc (.cells #[.int .i64 X.1, .int .i64 X.2.1, .int .i64 X.2.2.1, .int .i64 X.2.2.2.1, .int .i64 X.2.2.2.2.1, .int .i64 X.2.2.2.2.2.1, .slice V3 X.2.2.2.2.2.2.1.length vc3, .slice B3 X.2.2.2.2.2.2.2.length bc3] 45) = W4 := ⟨_, rfl⟩
      have hb34 : Below n3 w3 W4 := by rw [← hW4, ← hn3]; exact ext_alloc (Below.refl _ _)
      have hr4 : W4.heap[n3]? = some (.cells #[.int .i64 X.1, .int .i64 X.2.1, .int .i64 X.2.2.1, .int .i64 X.2.2.2.1, .int .i64 X.2.2.2.2.1, .int .i64 X.2.2.2.2.2.1, .slice V3 X.2.2.2.2.2.2.1.length vc3, .slice B3 X.2.2.2.2.2.2.2.length bc3] 45 (0, 0)) := by rw [← hW4, ← hn3]; exact heap_alloc_new _ _
      have hz4 : n3 < W4.heap.size := by rw [← hW4, ← hn3]; simp
      have hz3 := hb3.size
      have hz02 := hb02.size
      have hb03 : Below n1 W0 w3 := hb02.trans (hb3.mono (by omega))
      have hb04 : Below n1 W0 W4 := hb03.trans (hb34.mono (by omega))
      have HA2' := Lib.hid (HA2.out W4 hb04)
      obtain ⟨⟨p0, p1, p2, _⟩, z0, z1, z2, z3, z4, z5, z6, z7, _⟩ := And.intro (blk3 (HALL.out W4 hb04).1.1) (blk8 (HALL.out W4 hb04).1.2)
      have HW4 := Lib.hid hW4
      have HR4 := Lib.hid hr4
      have HB34 := Lib.hid hb34
      have HN3 := Lib.hid hn3
      clear hW4 hr4 hm3 hb34 hb3
      go_upto_region 4 with (fail)
      rw [HW4.out]
      clear hn3
      go_wp2_with fail
      refine HA2'.out.mono ?_
      rintro e w5 ⟨v5, rfl, ⟨V5, vc5, B5, bc5, rfl, hm5⟩, hb5⟩
      clear p0 p1 p2 z0 z1 z2 z3 z4 z5 z6 z7 HA2' HA2
      have hb5' := hb5.size
      obtain ⟨n5, hn5⟩ : ∃ n5, w5.heap.size = n5 := ⟨_, rfl⟩
      obtain ⟨W6, hW6⟩ : ∃ W6, w5.alloc (.cells #[.int .i64 X.1, .int .i64 X.2.1, .int .i64 X.2.2.1, .int .i64 X.2.2.2.1, .int .i64 X.2.2.2.2.1, .int .i64 X.2.2.2.2.2.1, .slice V5 X.2.2.2.2.2.2.1.length vc5, .slice B5 X.2.2.2.2.2.2.2.length bc5] 45) = W6 := ⟨_, rfl⟩
      have hb56 : Below n5 w5 W6 := by rw [← hW6, ← hn5]; exact ext_alloc (Below.refl _ _)
      have hr6 : W6.heap[n5]? = some (.cells #[.int .i64 X.1, .int .i64 X.2.1, .int .i64 X.2.2.1, .int .i64 X.2.2.2.1, .int .i64 X.2.2.2.2.1, .int .i64 X.2.2.2.2.2.1, .slice V5 X.2.2.2.2.2.2.1.length vc5, .slice B5 X.2.2.2.2.2.2.2.length bc5] 45 (0, 0)) := by rw [← hW6, ← hn5]; exact heap_alloc_new _ _
      have hb46 : Below W4.heap.size W4 W6 := hb5.trans (hb56.mono (by omega))
      have hV5 : MsgVal W6 (Bl W6.heap.size) X (.agg #[.int .i64 X.1, .int .i64 X.2.1, .int .i64 X.2.2.1, .int .i64 X.2.2.2.1, .int .i64 X.2.2.2.2.1, .int .i64 X.2.2.2.2.2.1, .slice V5 X.2.2.2.2.2.2.1.length vc5, .slice B5 X.2.2.2.2.2.2.2.length bc5]) := (MsgVal.keep (S' := Bl w5.heap.size) ⟨V5, vc5, B5, bc5, rfl, hm5⟩ (fun _ _ => rfl) (fun g hg => hg.2)).fwd (by rw [hn5]; exact hb56)
      have hV4 := HV3.out W6 (by rw [HN3.out]; exact HB34.out.trans (hb46.mono (by omega)))
      have HSM := Lib.hid (sameMsg_true X _ _ W6 hV4 hV5)
      have hr46 := (hb46.block n3 hz4).trans HR4.out
      have HB06 : Hid (Below n1 W0 W6) := hb04.trans (hb46.mono (by have := hb04.size; omega))
      have HR46 := Lib.hid hr46
      have HR6 := Lib.hid hr6
      have HW6 := Lib.hid hW6
      have hrr : (r == r) = true := by simp
      clear hW6 hr6 hr46 hm5 hV5 hV4 hb56 hb5
      go_upto_region 5 with (fail)
      rw [HW6.out]
      clear hn5
      obtain ⟨p0, p1, p2, p3, p4, p5, p6, p7, _⟩ := blk8 HR46.out
      obtain ⟨z0, z1, z2, z3, z4, z5, z6, z7, _⟩ := blk8 HR6.out
      go_wp2_with fail
      refine HSM.out.mono ?_
      rintro e w7 ⟨rfl, hb7⟩
      have hb07 : Below n1 W0 w7 := HB06.out.trans (hb7.mono (by have := HB06.out.size; omega))
      clear p0 p1 p2 p3 p4 p5 p6 p7 z0 z1 z2 z3 z4 z5 z6 z7 HSM
      go_wp2_with fail
      refine (awake44_any w7).mono ?_
      rintro e wz ⟨rfl, hbz⟩
      go_wp2_with fail
      go_ret
      exact ⟨by first | trivial | rfl | simp, ((HALL.out w7 hb07).2.2.2.2).trans (hbz.mono (((HALL.out w7 hb07).2.2.2.2)).size)⟩
end Go.Proofs.Ytjehedfdikdfpaa
namespace Go.Proofs.Ytjehedfdikdfpaa
open Go.RowKit Go.ChangeShapes Go.WideShapes Go.ChangeAt

abbrev encTree : Enc Tr := encPair encInt (encPair encInt (encSl (encSl encU64)))
theorem op_u64 : Opens Try.prog 77 encU64 := opens_u64 Try.underlying77 (by kernel_rfl)
theorem op_u64s : Opens Try.prog 72 (encSl encU64) := opens_slice Try.underlying72 (by kernel_rfl) op_u64 (by decide)
theorem op_lvls : Opens Try.prog 22 (encSl (encSl encU64)) := opens_slice Try.underlying22 (by kernel_rfl) op_u64s (by decide)
theorem op_tree : Opens Try.prog 24 encTree := opens_struct Try.underlying24 (opensF_cons rfl op_int (opensF_cons rfl op_int (opensF_one rfl op_lvls (by kernel_rfl))))
set_option maxRecDepth 100000 in
theorem arg_tree {H : Type} {enc : TypeId × Value → H} {W : World} {base b0 : Nat} {spare : Nat → Bool} {held : Bool} {r : Reach} {v : Value} {d : DataW H} {p : List MemPlace} (hv : Value.okWide Try.prog W r b0 24 v) (h : DataW.Trod enc Try.prog W base spare held 24 v d p) :
    ∃ s lf A c l, v = .agg #[.int .i64 s, .int .i64 lf, .slice A (l : List (List Int)).length c] ∧ l.length ≤ c ∧ c ≤ maxLen ∧ SlAt (encSl encU64) W (Bl W.heap.size) A l ∧ I64 s ∧ I64 lf := by
  obtain ⟨cs, ⟨s, lf, l⟩, rfl, hr⟩ := arg_struct Try.underlying24 op_tree hv h
  obtain ⟨c1, c2, he, ⟨rfl, h1⟩, c3, c4, rfl, ⟨rfl, h2⟩, A, c, rfl, h3, h4, h5⟩ := hr
  refine ⟨s, lf, A, c, l, ?_, h3, h4, h5, h1, h2⟩
  congr 1
  exact Array.toList_inj.1 (by simpa using he)
end Go.Proofs.Ytjehedfdikdfpaa
