/-
  The law CompareLate: the walk.
-/
import Derived.Deep.DeepCutAuto
import Derived.Test.YtjehedfdikdfpaaZL12
import Derived.Test.YtjehedfdikdfpaaZL13
set_option linter.unusedVariables false
set_option linter.unusedSimpArgs false
set_option linter.unusedSectionVars false
set_option linter.unnecessarySimpa false
namespace Go.Proofs.Ytjehedfdikdfpaa
open Go.RowKit Go.Shelf
attribute [local go_sem] Oper.semAt_some

/-- Learn, its arguments as values -/
theorem learn_gen (x : Wk) (m : Msg) (vx vm : Value) (W : World) (hx : WkVal W (Bl W.heap.size) x vx) (hm : MsgVal W (Bl W.heap.size) m vm) (h1 : x.1.2.2.length ≤ 100000) (h2 : x.2.1.length ≤ 100000) (h3 : x.2.2.2.1.length ≤ 100000) (h4 : m.2.2.2.2.2.2.1.length ≤ 100000000) (h5 : ∀ row ∈ x.1.2.2, row.length ≤ 1000000) :
    Calls Try.prog 24 #[vx, vm] W (RetW (learnW x m) (learnM x m) (learnE x m) W) := by
  obtain ⟨A, c, P, pc, F, fc, rfl, ⟨a1, a2, a3⟩, ⟨b1, b2, b3⟩, ⟨c1, c2, c3⟩, hi⟩ := hx
  obtain ⟨V, vc, B, bc, rfl, mi, ⟨m1, m2, m3⟩, m4, m5, m6⟩ := hm
  obtain ⟨⟨s, lf, l⟩, p, lv, f, sent, done⟩ := x
  obtain ⟨k, fr, tt, num, val, ep, vals, body⟩ := m
  exact learn_any s lf lv sent k fr tt num val ep done A P F V B c pc fc l.length p.length f.length vals.length vc body.length bc l p f vals body W rfl rfl rfl rfl rfl a3 b3 c3 m3 m6 h1 ⟨a1, a2⟩ h2 ⟨b1, b2⟩ h3 ⟨c1, c2⟩ h4 ⟨m4, m5⟩ hi h5
/-- what holds between two rounds: the walk goes on at a level below those of all answers, or it is done -/
def LateI (n m : Nat) (l l2 : List (List Int)) (fin x : Wk) (rq : Msg) (aw : List Msg) (i N : Nat) : Prop :=
  (∃ k v s, x = stW ((n : Int), (m : Int), l) k v s ∧ rq = reqMsg x ∧ k < l.length ∧ v.Pairwise (· < ·) ∧ (∀ i ∈ v, i < nk (leavesN n m) k) ∧ v ≠ [] ∧ s + sentN l l2 k v ≤ 8192 ∧ runW ((n : Int), (m : Int), l) l2 k v s = fin ∧
    (∀ a ∈ aw, ∃ j u, k < j ∧ (joinN u).length ≤ 8192 ∧ a = ansM ((n : Int), (m : Int), l) l2 j u) ∧ (i ≤ N ∨ k + (i - N) ≤ 12)) ∨ (x = fin ∧ aw ≠ [] ∧ ∀ a ∈ aw, ∃ j u, (joinN u).length ≤ 8192 ∧ a = ansM ((n : Int), (m : Int), l) l2 j u)
/-- blocks that are no variables, and not that of the answers -/
def LS (W : World) (nw no : Nat) (v : Value) (g : Nat) : Prop := g < W.heap.size ∧ g ≠ nw ∧ g ≠ no ∧ v.ownBlock ≠ some g
def WkIn (W : World) (S : Nat → Prop) (b : Nat) (x : Wk) : Prop :=
  ∃ u0 u1 u2 u3 u4 u5 u6 u7, W.heap[b]? = some (.cells #[u0, u1, u2, u3, u4, u5, u6, u7] 27 (0, 0)) ∧ WkVal W S x (.agg #[u0, u1, u2, u3, u4, u5, u6, u7])
def MgIn (W : World) (S : Nat → Prop) (b : Nat) (x : Msg) : Prop :=
  ∃ u0 u1 u2 u3 u4 u5 u6 u7, W.heap[b]? = some (.cells #[u0, u1, u2, u3, u4, u5, u6, u7] 45 (0, 0)) ∧ MsgVal W S x (.agg #[u0, u1, u2, u3, u4, u5, u6, u7])
/-- the memory between two rounds: the walk, the request, the answers -/
structure LateM (W : World) (nw no lo : Nat) (x : Wk) (rq : Msg) (B : Option Addr) (bc : Nat) (aw : List Msg) : Prop where
  own : OwnX (fun _ => False) encMsg W lo 45 (.slice B aw.length bc) aw
  wk : WkIn W (LS W nw no (.slice B aw.length bc)) nw x
  mg : MgIn W (LS W nw no (.slice B aw.length bc)) no rq
theorem WkIn.move {W W' : World} {S S' : Nat → Prop} {b : Nat} {x : Wk} (h : WkIn W S b x) (hb : W'.heap[b]? = W.heap[b]?) (hk : ∀ g, S g → W'.heap[g]? = W.heap[g]?) (hS : ∀ g, S g → S' g) : WkIn W' S' b x := by
  obtain ⟨u0, u1, u2, u3, u4, u5, u6, u7, h1, h2⟩ := h
  exact ⟨u0, u1, u2, u3, u4, u5, u6, u7, hb.trans h1, h2.keep hk hS⟩
theorem MgIn.move {W W' : World} {S S' : Nat → Prop} {b : Nat} {x : Msg} (h : MgIn W S b x) (hb : W'.heap[b]? = W.heap[b]?) (hk : ∀ g, S g → W'.heap[g]? = W.heap[g]?) (hS : ∀ g, S g → S' g) : MgIn W' S' b x := by
  obtain ⟨u0, u1, u2, u3, u4, u5, u6, u7, h1, h2⟩ := h
  exact ⟨u0, u1, u2, u3, u4, u5, u6, u7, hb.trans h1, h2.keep hk hS⟩
theorem LateM.keep {W W' : World} {nw no lo : Nat} {x : Wk} {rq : Msg} {B : Option Addr} {bc : Nat} {aw : List Msg} (h : LateM W nw no lo x rq B bc aw) (h1 : nw < W.heap.size) (h2 : no < W.heap.size) (hb : Below W.heap.size W W') : LateM W' nw no lo x rq B bc aw :=
  ⟨h.own.below hb, h.wk.move (hb.block nw h1) (fun g hg => hb.block g hg.1) (fun g hg => ⟨Nat.lt_of_lt_of_le hg.1 hb.size, hg.2⟩), h.mg.move (hb.block no h2) (fun g hg => hb.block g hg.1) (fun g hg => ⟨Nat.lt_of_lt_of_le hg.1 hb.size, hg.2⟩)⟩
theorem LS.app {W W' : World} {nw no n g : Nat} {v v' : Value} (h : LS W nw no v g) (hs : W.heap.size ≤ n) (hn : n ≤ W'.heap.size) (hat : v'.ownBlock = v.ownBlock ∨ v'.ownBlock = some n) : LS W' nw no v' g :=
  ⟨by have := h.1; omega, h.2.1, h.2.2.1, fun e => by
    rcases hat with hat | hat
    · exact h.2.2.2 (by rw [← hat]; exact e)
    · rw [hat] at e; injection e with e; have := h.1; omega⟩
theorem tyMsgs : SliceTy Try.prog 31 45 8 96 := sliceTy_mk (z := .agg #[.int .i64 0, .int .i64 0, .int .i64 0, .int .i64 0, .int .i64 0, .int .i64 0, .slice none 0 0, .slice none 0 0]) Try.underlying31 (by kernel_rfl) rfl (by decide)
set_option maxHeartbeats 8000000 in
set_option maxRecDepth 100000 in
theorem late44_any (A A2 A3 : Option Addr) (c c2 c3 : Nat) (l m : List Sec) (os : List Int) (w : World) (h1 : SlAt encSec w (Bl w.heap.size) A l) (h2 : SlAt encSec w (Bl w.heap.size) A2 m) (h3 : SlAt encU8 w (Bl w.heap.size) A3 os) (hc : l.length ≤ c ∧ c ≤ maxLen) (hc2 : m.length ≤ c2 ∧ c2 ≤ maxLen) (hc3 : os.length ≤ c3 ∧ c3 ≤ maxLen) :
    Calls Try.prog 8 #[.slice A l.length c, .slice A2 m.length c2, .slice A3 os.length c3] w (LawRet w) := by
  obtain ⟨leaf, hleaf⟩ : ∃ leaf, IntKind.u8.wrap (os.length : Int) = leaf := ⟨_, rfl⟩
  have hlf : 0 ≤ leaf ∧ leaf < 256 := by rw [← hleaf]; simp [IntKind.wrap, IntKind.signed, IntKind.bits]; omega
  have H3 : Hid (∀ w', Below w.heap.size w w' → SlAt encU8 w' (Bl w.heap.size) A3 os) := fun w' hb => h3.below hb
  have hol : (os.length : Int) ≤ 9223372036854775807 := by unfold maxLen at hc3; omega
  clear h3 hc3
  obtain ⟨n0, hn0⟩ : ∃ n0, w.heap.size = n0 := ⟨_, rfl⟩
  have HTR := Lib.hid (trees44_any A A2 c c2 l.length m.length l m leaf w rfl rfl h1 h2 hc hc2 hlf)
  have HLR := Lib.hid (leafN_range hlf)
  clear h1 h2 hc hc2
  go_enter Try.func8, Try.ntmps8
  go_wp2_with fail
  refine HTR.out.mono ?_
  rintro e w1 ⟨t1, t2, B1, B2, b1, b2, rfl, ⟨x1, x2⟩, ⟨y1, y2⟩, x3, y3, hb1, htt⟩
  clear HTR
  obtain ⟨n7, hn7⟩ : ∃ n7, w1.heap.size = n7 := ⟨_, rfl⟩
  obtain ⟨W2, hW2⟩ : ∃ W2, (w1.alloc (.cells #[.int .i64 t1.1, .int .i64 t1.2.1, .slice B1 t1.2.2.length b1] 24)).alloc (.cells #[.int .i64 t2.1, .int .i64 t2.2.1, .slice B2 t2.2.2.length b2] 24) = W2 := ⟨_, rfl⟩
  have hz2 : W2.heap.size = n7 + 2 := by rw [← hW2, ← hn7]; simp
  have hb2 : Below n7 w1 W2 := by rw [← hW2, ← hn7]; exact ext_alloc (ext_alloc (Below.refl _ _))
  have hr7 : W2.heap[n7]? = some (.cells #[.int .i64 t1.1, .int .i64 t1.2.1, .slice B1 t1.2.2.length b1] 24 (0, 0)) := by
    rw [← hW2, ← hn7]; exact (Below.heap_alloc _ _ _ (by simp)).trans (heap_alloc_new _ _)
  have hr8 : W2.heap[n7 + 1]? = some (.cells #[.int .i64 t2.1, .int .i64 t2.2.1, .slice B2 t2.2.2.length b2] 24 (0, 0)) := by
    rw [← hW2, ← hn7]; exact heap_new2 _ _ _
  have hbw2 : Below n0 w W2 := by rw [hn0] at hb1; exact hb1.trans (hb2.mono (by have := hb1.size; omega))
  have HN0 := Lib.hid hn0
  go_upto_region 2 with (fail)
  obtain ⟨ok, hok⟩ : ∃ ok, treesB l m = ok := ⟨_, rfl⟩
  rw [hok] at htt ⊢
  have HOK := Lib.hid hok
  have HN7 := Lib.hid hn7
  clear hW2 hok hn7
  cases ok with
  | false =>
    go_wp2_with fail
    have hbf : Below w.heap.size w W2 := by rw [HN0.out]; exact hbw2
    refine (awake44_any W2).mono ?_
    rintro e wz ⟨rfl, hbz⟩
    go_wp2_with fail
    go_ret
    exact ⟨by first | trivial | rfl | simp, hbf.trans (hbz.mono (hbf).size)⟩
  | true =>
    by_cases ho40 : 40 < os.length
    · have ho40' : (40 : Int) < os.length := by omega
      go_wp2_with fail
      have hbf : Below w.heap.size w W2 := by rw [HN0.out]; exact hbw2
      refine (awake44_any W2).mono ?_
      rintro e wz ⟨rfl, hbz⟩
      go_wp2_with fail
      go_ret
      exact ⟨by first | trivial | rfl | simp, hbf.trans (hbz.mono (hbf).size)⟩
    have ho40' : ¬ (40 : Int) < os.length := by omega
    obtain ⟨q1, q2⟩ := htt rfl
    obtain ⟨la, lb, e1, e2, two, h100, hpos⟩ := trees_two HLR.out HOK.out
    have q1' := q1.trans e1
    have q2' := q2.trans e2
    subst q1' q2'
    obtain ⟨nn, hnn⟩ : ∃ nn, leafN leaf = nn := ⟨_, rfl⟩
    clear q1 q2 e1 e2 htt
    rw [hnn] at two hr7 hr8 ⊢
    simp only at x1 x3 hr7 y1 y3 hr8 ⊢
    have HTWO := Lib.hid two
    have hnn12 : 1 ≤ nn ∧ nn ≤ 12 := by rw [← hnn]; exact HLR.out
    have HW : Hid (∀ W, Below (n7 + 2) W2 W → (W.heap[n7]? = some (.cells #[.int .i64 (l.length : Int), .int .i64 (nn : Int), .slice B1 la.length b1] 24 (0, 0)) ∧ W.heap[n7 + 1]? = some (.cells #[.int .i64 (l.length : Int), .int .i64 (nn : Int), .slice B2 lb.length b2] 24 (0, 0))) ∧ SlAt (encSl encU64) W (Bl W.heap.size) B1 la ∧ SlAt (encSl encU64) W (Bl W.heap.size) B2 lb ∧ Below w.heap.size w W) := fun W hb => by
      have hz := hb.size
      have hz1 := hb2.size
      have hn7e := HN7.out
      exact ⟨⟨(hb.block n7 (by omega)).trans hr7, (hb.block (n7 + 1) (by omega)).trans hr8⟩, (x3.blk (fun g hg => (hb.block g (by have := hg.2; omega)).trans (hb2.block g (by have := hg.2; omega)))).more (fun g hg => by have := hg.2; show g < W.heap.size; omega), (y3.blk (fun g hg => (hb.block g (by have := hg.2; omega)).trans (hb2.block g (by have := hg.2; omega)))).more (fun g hg => by have := hg.2; show g < W.heap.size; omega), by rw [HN0.out]; exact hbw2.trans (hb.mono (by have := hbw2.size; omega))⟩
    have hIN : I64 (l.length : Int) ∧ I64 (nn : Int) := ⟨by unfold I64; omega, by unfold I64; omega⟩
    have hlla : la.length ≤ 13 := HTWO.out.ta.len
    have hllb : lb.length ≤ 13 := HTWO.out.tb.len
    have hne := HTWO.out.ta.ne
    have HRN1 := Lib.hid (fun W (hb : Below (n7 + 2) W2 W) => run_any (l.length : Int) (nn : Int) (l.length : Int) (nn : Int) B1 B2 b1 b2 la.length lb.length la lb W rfl rfl (HW.out W hb).2.1 (HW.out W hb).2.2.1 (by omega) (by omega) ⟨x1, x2⟩ ⟨y1, y2⟩ hIN hIN HTWO.out.ta.rows)
    rw [HTWO.out.err] at HRN1
    have hB2 := Below.refl (n7 + 2) W2
    have HBG := Lib.hid (begin_any (l.length : Int) (nn : Int) B1 b1 la.length la W2 rfl (HW.out W2 hB2).2.1 (by omega) ⟨x1, x2⟩ hIN HTWO.out.ta.rows)
    have hbw : begW ((l.length : Int), (nn : Int), la) = (((l.length : Int), (nn : Int), la), [(0, 1)], (la.length : Int) - 1, [], 0, false) := by unfold begW; rw [if_pos HTWO.out.ca]
    have hbm : begM ((l.length : Int), (nn : Int), la) = [reqMsg (begW ((l.length : Int), (nn : Int), la))] := by unfold begM; rw [if_pos HTWO.out.ca]
    rw [hbm, HTWO.out.ca, hbw] at HBG
    clear hbw hbm
    obtain ⟨p0, p1, p2, _⟩ := blk3 (HW.out W2 hB2).1.1
    clear x3 y3 hb2 hbw2 hr7 hr8 hb1
    go_wp2_with fail
    refine HBG.out.mono ?_
    rintro e w3 ⟨v3, C3, cc3, rfl, ⟨A9, c9, P9, pc9, F9, fc9, rfl, ⟨va1, va2, va3⟩, ⟨vb1, vb2, vb3⟩, ⟨vc1, vc2, vc3⟩, vi⟩, hm1, hm2, hms, hb3⟩
    rw [hz2] at va3 vb3 vc3 hms hb3
    simp only at va1 va3 vb1 vb3 vc1 vc3 vi
    obtain ⟨nw, hnw⟩ : ∃ nw, w3.heap.size = nw := ⟨_, rfl⟩
    obtain ⟨bm, om, cs, rfl, hbm, hcs, V5, vc5, Bd5, bc5, rfl, xi, ⟨xx1, xx2, xx3⟩, xx4, xx5, xx6⟩ := hms.at_ (k := 0) (by simp)
    simp only [List.getElem_cons_zero] at hcs xi xx1 xx3 xx4 xx6
    obtain ⟨xm, hxm⟩ : ∃ xm, reqMsg (((l.length : Int), (nn : Int), la), [(0, 1)], (la.length : Int) - 1, [], 0, false) = xm := ⟨_, rfl⟩
    rw [hxm] at hcs xi xx1 xx3 xx4 xx6
    have q0 := hcs 0 _ rfl
    have q1 := hcs 1 _ rfl
    have q2 := hcs 2 _ rfl
    have q3 := hcs 3 _ rfl
    have q4 := hcs 4 _ rfl
    have q5 := hcs 5 _ rfl
    have q6 := hcs 6 _ rfl
    have q7 := hcs 7 _ rfl
    simp only [show encMsg.size = 8 from rfl, Nat.zero_mul, Nat.add_zero] at q0 q1 q2 q3 q4 q5 q6 q7
    have HXM := Lib.hid hxm
    clear hcs hms hm1 hm2 hxm
    obtain ⟨W4, hW4⟩ : ∃ W4, w3.alloc (.cells #[.int .i64 (l.length : Int), .int .i64 (nn : Int), .slice A9 la.length c9, .slice P9 1 pc9, .int .i64 ((la.length : Int) - 1), .slice F9 0 fc9, .int .i64 0, .bool false] 27) = W4 := ⟨_, rfl⟩
    have HW4 := Lib.hid hW4
    have hb4 : Below nw w3 W4 := by rw [← hW4, ← hnw]; exact ext_alloc (Below.refl _ _)
    have hr4 : W4.heap[nw]? = some (.cells #[.int .i64 (l.length : Int), .int .i64 (nn : Int), .slice A9 la.length c9, .slice P9 1 pc9, .int .i64 ((la.length : Int) - 1), .slice F9 0 fc9, .int .i64 0, .bool false] 27 (0, 0)) := by rw [← hW4, ← hnw]; exact heap_alloc_new _ _
    obtain ⟨no, hno⟩ : ∃ no, W4.heap.size = no := ⟨_, rfl⟩
    have hno1 : nw < no := by rw [← hno, ← hW4, ← hnw]; simp
    have hbm' : bm < nw := by rw [← hnw]; exact hbm.2
    have hg4 : ∀ i, W4.cell? ⟨bm, i, none⟩ = w3.cell? ⟨bm, i, none⟩ := fun i => World.cell?_of_block (hb4.block bm hbm')
    have HQ := Lib.hid (And.intro ((hg4 _).trans q0) (And.intro ((hg4 _).trans q1) (And.intro ((hg4 _).trans q2) (And.intro ((hg4 _).trans q3) (And.intro ((hg4 _).trans q4) (And.intro ((hg4 _).trans q5) (And.intro ((hg4 _).trans q6) ((hg4 _).trans q7))))))))
    have hnw7 : n7 + 2 ≤ nw := by rw [← hnw]; have := hb3.size; omega
    have hk3 : ∀ g, Nw (n7 + 2) nw g → W4.heap[g]? = w3.heap[g]? := fun g hg => hb4.block g hg.2
    have HVA := Lib.hid (va3.blk (by rw [hnw]; exact hk3))
    have HVB := Lib.hid (vb3.blk (by rw [hnw]; exact hk3))
    have HVC := Lib.hid (vc3.blk (by rw [hnw]; exact hk3))
    have HX3 := Lib.hid (xx3.blk (by rw [hnw]; exact hk3))
    have HX6 := Lib.hid (xx6.blk (by rw [hnw]; exact hk3))
    have hb24 : Below (n7 + 2) W2 W4 := hb3.trans (hb4.mono hnw7)
    have HNW := Lib.hid hnw
    clear hW4 q0 q1 q2 q3 q4 q5 q6 q7 hg4 va3 vb3 vc3 xx3 xx6 hk3
    go_upto_region 8 with (fail)
    rw [HW4.out]
    clear HW4 hnw
    obtain ⟨q0, q1, q2, q3, q4, q5, q6, q7⟩ := HQ.out
    obtain ⟨W5, hW5⟩ : ∃ W5, W4.alloc (.cells #[.int .i64 xm.1, .int .i64 xm.2.1, .int .i64 xm.2.2.1, .int .i64 xm.2.2.2.1, .int .i64 xm.2.2.2.2.1, .int .i64 xm.2.2.2.2.2.1, .slice V5 xm.2.2.2.2.2.2.1.length vc5, .slice Bd5 xm.2.2.2.2.2.2.2.length bc5] 45) = W5 := ⟨_, rfl⟩
    have HW5 := Lib.hid hW5
    have hb5 : Below no W4 W5 := by rw [← hW5, ← hno]; exact ext_alloc (Below.refl _ _)
    have hr5 : W5.heap[no]? = some (.cells #[.int .i64 xm.1, .int .i64 xm.2.1, .int .i64 xm.2.2.1, .int .i64 xm.2.2.2.1, .int .i64 xm.2.2.2.2.1, .int .i64 xm.2.2.2.2.2.1, .slice V5 xm.2.2.2.2.2.2.1.length vc5, .slice Bd5 xm.2.2.2.2.2.2.2.length bc5] 45 (0, 0)) := by rw [← hW5, ← hno]; exact heap_alloc_new _ _
    obtain ⟨n9, hn9⟩ : ∃ n9, W5.heap.size = n9 := ⟨_, rfl⟩
    have hno9 : no < n9 := by rw [← hn9]; exact (Array.getElem?_eq_some_iff.1 hr5).1
    have hLS : ∀ g, Nw (n7 + 2) w3.heap.size g → LS W5 nw no (.slice none 0 0) g := fun g hg => ⟨by have := hg.2; rw [HNW.out] at this; omega, by have := hg.2; rw [HNW.out] at this; omega, by have := hg.2; rw [HNW.out] at this; omega, by simp [Value.ownBlock]⟩
    have hk4 : ∀ g, Nw (n7 + 2) w3.heap.size g → W5.heap[g]? = W4.heap[g]? := fun g hg => hb5.block g (by have := hg.2; rw [HNW.out] at this; omega)
    have HLM : Hid (LateM W5 nw no n9 (((l.length : Int), (nn : Int), la), [(0, 1)], (la.length : Int) - 1, [], 0, false) xm none 0 []) :=
      ⟨OwnX.nil_, ⟨_, _, _, _, _, _, _, _, (hb5.block nw hno1).trans hr4, A9, c9, P9, pc9, F9, fc9, rfl, ⟨va1, va2, (HVA.out.blk hk4).more hLS⟩, ⟨vb1, vb2, (HVB.out.blk hk4).more hLS⟩, ⟨vc1, vc2, (HVC.out.blk hk4).more hLS⟩, vi⟩,
        ⟨_, _, _, _, _, _, _, _, hr5, V5, vc5, Bd5, bc5, rfl, xi, ⟨xx1, xx2, (HX3.out.blk hk4).more hLS⟩, xx4, xx5, (HX6.out.blk hk4).more hLS⟩⟩
    have hb25 : Below (n7 + 2) W2 W5 := hb24.trans (hb5.mono (by omega))
    have HNO := Lib.hid hno
    have HN9 := Lib.hid hn9
    clear hW5 HVA HVB HVC HX3 HX6 hk4 hLS hr5 hr4 HQ
    go_upto_region 9 with (fail)
    rw [HW5.out]
    clear q0 q1 q2 q3 q4 q5 q6 q7 HW5 hno hn9
    go_wp2_with fail
    obtain ⟨fin, hfin⟩ : ∃ fin, runW ((l.length : Int), (nn : Int), la) lb (la.length - 1) [0] 0 = fin := ⟨_, rfl⟩
    have HFIN := Lib.hid hfin
    have HRI : Hid (LateI l.length nn la lb fin (((l.length : Int), (nn : Int), la), [(0, 1)], (la.length : Int) - 1, [], 0, false) xm [] 0 os.length) := by
      have tk := HTWO.out.ta
      have hst : stW ((l.length : Int), (nn : Int), la) (la.length - 1) [0] 0 = (((l.length : Int), (nn : Int), la), [(0, 1)], (la.length : Int) - 1, [], 0, false) := by
        unfold stW
        have : ((la.length - 1 : Nat) : Int) = (la.length : Int) - 1 := by omega
        rw [this]; rfl
      refine Or.inl ⟨la.length - 1, [0], 0, hst.symm, HXM.out.symm, by omega, List.pairwise_singleton .., fun i hi => ?_, by simp, ?_, hfin, (fun a ha => by cases ha), Or.inl (Nat.zero_le _)⟩
      · rw [List.mem_singleton] at hi; have := (tk.at_ (la.length - 1) (by omega)).2.2.1; omega
      · have h1 := sent_nodes tk HTWO.out.tb
        have h2 := runs_len tk
        omega
    have hu : ∀ {A : Option Addr} {l : List (List Int)} {W : World}, SlAt (encSl encU64) W (Bl W.heap.size) A l → ∀ row ∈ l, ∀ x ∈ row, 0 ≤ x ∧ x < 18446744073709551616 := fun hh row hr x hx => by
      obtain ⟨k, hk, rfl⟩ := List.mem_iff_getElem.1 hr
      obtain ⟨j, hj, rfl⟩ := List.mem_iff_getElem.1 hx
      obtain ⟨_, _, _, _, _, _, _, hD, _, _⟩ := hh.sl hk
      obtain ⟨_, _, _, _, _, h0, h1⟩ := hD.u64 hj
      exact ⟨h0, h1⟩
    have HU1 := Lib.hid (hu (HW.out W2 hB2).2.1)
    have HU2 := Lib.hid (hu (HW.out W2 hB2).2.2.1)
    clear hfin hu
    go_loopw [13, 15] (fun a i wr => ∃ (j : Nat) (x : Wk) (rq : Msg) (B : Option Addr) (bc : Nat) (aw : List Msg), j ≤ os.length + 20 ∧ aw.length ≤ j ∧ i = .int .i64 j ∧ a = .slice B aw.length bc ∧ n9 ≤ wr.heap.size ∧ Below (n7 + 2) W2 wr ∧ Hid (LateM wr nw no n9 x rq B bc aw) ∧ Hid (LateI l.length nn la lb fin x rq aw j os.length)) (fun _ i _ => os.length + 20 - (intOf i).toNat)
    case atStart => exact ⟨0, _, _, none, 0, [], by omega, by simp, rfl, rfl, by rw [HN9.out]; exact Nat.le_refl _, hb25, HLM.out, HRI.out⟩
    case round =>
      obtain ⟨wo, rfl⟩ : ∃ wo : World, wo = wr := ⟨_, rfl⟩
      obtain ⟨j, x, rq, B, bc, aw, hj20, haw, rfl, rfl, hn9w, hbo, hlm, hli⟩ := hrel
      clear HLM HRI hb25 hb24 hb5 hb4 hb3
      have hj60 : j ≤ 60 := by omega
      rcases hli.out with ⟨k, v, st, rfl, rfl, hk, hv, hvb, hvne, hst, hrun, haws, hlv⟩ | ⟨hxf, hne0, haws⟩
      · obtain ⟨hown, hwk, hmg⟩ := hlm.out
        obtain ⟨u0, u1, u2, u3, u4, u5, u6, u7, hrow, A5, c5, P5, pc5, F5, fc5, he, ⟨s1, s2, s3⟩, ⟨g1, g2, g3⟩, ⟨f1, f2, f3⟩, ii⟩ := hwk
        simp only [Value.agg.injEq, Array.mk.injEq, List.cons.injEq, and_true] at he
        obtain ⟨rfl, rfl, rfl, rfl, rfl, rfl, rfl, rfl⟩ := he
        replace hrow : wo.heap[nw]? = some (.cells #[.int .i64 (l.length : Int), .int .i64 (nn : Int), .slice A5 la.length c5, .slice P5 (joinN v).length pc5, .int .i64 (k : Int), .slice F5 0 fc5, .int .i64 (st : Int), .bool false] 27 (0, 0)) := hrow
        obtain ⟨a0, a1, a2, a3, a4, a5, a6, a7, _⟩ := blk8 hrow
        have hjj : (j : Int) < (os.length : Int) + 20 := by rcases hlv with h | h <;> omega
        obtain ⟨p, hp, hple⟩ : ∃ p : Nat, Hid (p = if h : j < os.length then (os[j].toNat) % (aw.length + 1) else aw.length) ∧ p ≤ aw.length := ⟨_, Lib.hid rfl, by
          split
          · have := Nat.mod_lt (os[j].toNat) (show 0 < aw.length + 1 by omega); omega
          · omega⟩
        go_upto_if 78 with (fail)
        go_cut [16] (fun e wx => e = .int .i64 p ∧ wo = wx)
        case first =>
          by_cases hjo : j < os.length
          · have hjo' : (j : Int) < os.length := by omega
            obtain ⟨b8, off8, e8, _, g8, o0, o1⟩ := (H3.out wo (HW.out wo hbo).2.2.2).u8 hjo
            have hpe := hp.out
            rw [dif_pos hjo] at hpe
            obtain ⟨o, ho⟩ : ∃ o, os[j] = o := ⟨_, rfl⟩
            rw [ho] at g8 o0 o1 hpe
            have hmod : o % ((aw.length : Int) + 1) = p := by
              have h1 : ((o.toNat : Nat) : Int) = o := by omega
              rw [hpe, ← h1]; simp
            have hj0 : (0 : Int) ≤ j := by omega
            have haw0 : (aw.length : Int) ≤ 60 := by omega
            subst e8
            clear hpe ho
            go_wp2_with fail
            go_meet
            exact ⟨by rw [hmod], rfl⟩
          · have hjo' : ¬ (j : Int) < os.length := by omega
            have hpe : p = aw.length := by rw [hp.out, dif_neg hjo]
            subst hpe
            go_wp2_with fail
            go_meet
            exact ⟨rfl, rfl⟩
        case rest =>
          obtain ⟨rfl, rfl⟩ := hcut
          obtain ⟨am, ham⟩ : ∃ am, ansM ((l.length : Int), (nn : Int), la) lb k v = am := ⟨_, rfl⟩
          have hjl := joinN_len v
          have hvl8 : v.length ≤ 8192 := by
            have : v.length ≤ sentN la lb k v := by cases k <;> (unfold sentN; omega)
            omega
          have HAM := Lib.hid ham
          go_upto_if 91 with (fail)
          go_cut [13] (fun a wx => ∃ (B' : Option Addr) (bc' : Nat) (aw' : List Msg), a = .slice B' aw'.length bc' ∧ aw'.length ≤ 62 ∧ p < aw'.length ∧ n9 ≤ wx.heap.size ∧ Below (n7 + 2) W2 wx ∧ Hid (LateM wx nw no n9 (stW ((l.length : Int), (nn : Int), la) k v st) (reqMsg (stW ((l.length : Int), (nn : Int), la) k v st)) B' bc' aw') ∧ Hid ((aw' = aw ++ [am] ∧ p = aw.length) ∨ (aw' = aw ∧ p < aw.length)))
          case first =>
            by_cases hpa : p = aw.length
            · clear hp
              subst hpa
              obtain ⟨hA0, hAV⟩ := ans_ok (s := st) HTWO.out.cb HTWO.out.ta HTWO.out.tb hk hv hvb
              obtain ⟨q, hq⟩ : ∃ q, reqL (l.length : Int) (nn : Int) (joinN v) = q := ⟨_, rfl⟩
              have hrq : reqMsg (stW ((l.length : Int), (nn : Int), la) k v st) = (13, 0, 0, (k : Int), 0, 0, q, []) := by rw [← hq]; rfl
              have hql : q.length ≤ 100000 := by rw [← hq, reqL_len]; omega
              rw [hrq] at hmg hA0 hAV
              obtain ⟨w0, w1', w2', w3', w4', w5', w6', w7', hmrow, V6, vc6, Bd6, bc6, he, mi, ⟨m1, m2, m3⟩, m4, m5, m6⟩ := hmg
              simp only [Value.agg.injEq, Array.mk.injEq, List.cons.injEq, and_true] at he
              obtain ⟨rfl, rfl, rfl, rfl, rfl, rfl, rfl, rfl⟩ := he
              simp only at hmrow m1 m3 m4 m6
              have HAR := Lib.hid (answer_any (l.length : Int) (nn : Int) 13 0 0 (k : Int) 0 0 B2 V6 Bd6 b2 lb.length q.length vc6 0 bc6 lb q [] wo rfl rfl rfl (HW.out wo hbo).2.2.1 (m3.more (fun g hg => hg.1)) (by omega) ⟨y1, y2⟩ hql ⟨m1, m2⟩ hIN ⟨i64_small 0 (by omega), i64_small 0 (by omega), i64_small _ (by omega)⟩)
              rw [hA0, hAV, ham] at HAR
              obtain ⟨b0, b1', b2', _⟩ := blk3 (HW.out wo hbo).1.2
              obtain ⟨z0, z1, z2, z3, z4, z5, z6, z7, _⟩ := blk8 hmrow
              have hpa' : ((aw.length : Int) == (aw.length : Int)) = true := by simp
              have HMROW := Lib.hid hmrow
              clear hrq hq hA0 hAV ham hmrow m3 m6 a0 a1 a2 a3 a4 a5 a6 a7
              go_wp2_with fail
              refine HAR.out.mono ?_
              rintro e w5 ⟨v5, rfl, ⟨V7, vc7, B7, bc7, rfl, hi7, ⟨y3, y4, y5⟩, y6, y7, y8⟩, hb5⟩
              clear z0 z1 z2 z3 z4 z5 z6 z7 b0 b1' b2' HAR
              have hcl : (([Value.int .i64 am.1, .int .i64 am.2.1, .int .i64 am.2.2.1, .int .i64 am.2.2.2.1, .int .i64 am.2.2.2.2.1, .int .i64 am.2.2.2.2.2.1, .slice V7 am.2.2.2.2.2.2.1.length vc7, .slice B7 am.2.2.2.2.2.2.2.length bc7]) : List Value).toArray = #[Value.int .i64 am.1, .int .i64 am.2.1, .int .i64 am.2.2.1, .int .i64 am.2.2.2.1, .int .i64 am.2.2.2.2.1, .int .i64 am.2.2.2.2.2.1, .slice V7 am.2.2.2.2.2.2.1.length vc7, .slice B7 am.2.2.2.2.2.2.2.length bc7] := rfl
              obtain ⟨W6, hW6⟩ : ∃ W6, w5.alloc (.cells #[.int .i64 am.1, .int .i64 am.2.1, .int .i64 am.2.2.1, .int .i64 am.2.2.2.1, .int .i64 am.2.2.2.2.1, .int .i64 am.2.2.2.2.2.1, .slice V7 am.2.2.2.2.2.2.1.length vc7, .slice B7 am.2.2.2.2.2.2.2.length bc7] 45) = W6 := ⟨_, rfl⟩
              have HW6 := Lib.hid hW6
              have hb6 : Below wo.heap.size wo W6 := by rw [← hW6]; exact hb5.alloc hb5.size _
              have hr6 : W6.heap[w5.heap.size]? = some (.cells #[.int .i64 am.1, .int .i64 am.2.1, .int .i64 am.2.2.1, .int .i64 am.2.2.2.1, .int .i64 am.2.2.2.2.1, .int .i64 am.2.2.2.2.2.1, .slice V7 am.2.2.2.2.2.2.1.length vc7, .slice B7 am.2.2.2.2.2.2.2.length bc7] 45 (0, 0)) := by rw [← hW6]; exact heap_alloc_new _ _
              have hk6 : ∀ g, Nw wo.heap.size w5.heap.size g → W6.heap[g]? = w5.heap[g]? := fun g hg => by rw [← hW6]; exact Below.heap_alloc _ _ _ hg.2
              have hz6 : w5.heap.size < W6.heap.size := (Array.getElem?_eq_some_iff.1 hr6).1
              have HY5 := Lib.hid ((y5.blk hk6).more (S' := Nw wo.heap.size W6.heap.size) (fun g hg => ⟨hg.1, by have := hg.2; omega⟩))
              have HY8 := Lib.hid ((y8.blk hk6).more (S' := Nw wo.heap.size W6.heap.size) (fun g hg => ⟨hg.1, by have := hg.2; omega⟩))
              clear hW6 hk6 y5 y8 hcl
              go_upto_region 17 with (fail)
              rw [HW6.out]
              clear HW6
              obtain ⟨z0, z1, z2, z3, z4, z5, z6, z7, _⟩ := blk8 hr6
              have hO4 := Lib.hid ((hown.below hb6).alloc (.cells #[.int .i64 am.1, .int .i64 am.2.1, .int .i64 am.2.2.1, .int .i64 am.2.2.2.1, .int .i64 am.2.2.2.2.1, .int .i64 am.2.2.2.2.2.1, .slice V7 am.2.2.2.2.2.2.1.length vc7, .slice B7 am.2.2.2.2.2.2.2.length bc7] 45))
              have hO4o := Lib.hid hO4.out.1
              have hlt1 := Lib.hid hown.lt
              have hz5 := hb5.size
              have HRD : Hid (encMsg.rd (W6.alloc (.cells #[.int .i64 am.1, .int .i64 am.2.1, .int .i64 am.2.2.1, .int .i64 am.2.2.2.1, .int .i64 am.2.2.2.2.1, .int .i64 am.2.2.2.2.2.1, .slice V7 am.2.2.2.2.2.2.1.length vc7, .slice B7 am.2.2.2.2.2.2.2.length bc7] 45)) (fun g => Nw n9 (W6.alloc (.cells #[.int .i64 am.1, .int .i64 am.2.1, .int .i64 am.2.2.1, .int .i64 am.2.2.2.1, .int .i64 am.2.2.2.2.1, .int .i64 am.2.2.2.2.2.1, .slice V7 am.2.2.2.2.2.2.1.length vc7, .slice B7 am.2.2.2.2.2.2.2.length bc7] 45)).heap.size g ∧ ¬ False ∧ (Value.slice B aw.length bc).ownBlock ≠ some g) [.int .i64 am.1, .int .i64 am.2.1, .int .i64 am.2.2.1, .int .i64 am.2.2.2.1, .int .i64 am.2.2.2.2.1, .int .i64 am.2.2.2.2.2.1, .slice V7 am.2.2.2.2.2.2.1.length vc7, .slice B7 am.2.2.2.2.2.2.2.length bc7] am) :=
                ⟨V7, vc7, B7, bc7, rfl, hi7, ⟨y3, y4, OwnX.since (X := fun _ => False) (B := wo.heap.size) ((HY5.out.blk (fun g hg => Below.heap_alloc _ _ _ hg.2)).more (fun g hg => hg.mono (Nat.le_refl _) (by simp))) hn9w (fun g hg => hg.elim) (fun g hg => (hlt1.out g hg).2)⟩,
                  y6, y7, OwnX.since (X := fun _ => False) (B := wo.heap.size) ((HY8.out.blk (fun g hg => Below.heap_alloc _ _ _ hg.2)).more (fun g hg => hg.mono (Nat.le_refl _) (by simp))) hn9w (fun g hg => hg.elim) (fun g hg => (hlt1.out g hg).2)⟩
              go_wp2_with (at_builtin; refine Hid.out ?_)
              change wpList _ _ _ _ _ _
              refine wpList_app1 (E := encMsg) tyMsgs rfl _ _ rfl rfl hO4o.out am [.int .i64 am.1, .int .i64 am.2.1, .int .i64 am.2.2.1, .int .i64 am.2.2.2.1, .int .i64 am.2.2.2.2.1, .int .i64 am.2.2.2.2.2.1, .slice V7 am.2.2.2.2.2.2.1.length vc7, .slice B7 am.2.2.2.2.2.2.2.length bc7] rfl HRD.out (heap_alloc_new _ _) (fun _ h => h.1.2) (by simp; omega) (by unfold maxLen; omega) (by omega) ?_
              intro A9' c9' w9 hown9 hg9 hat9
              have hz9 := hg9.size
              rw [World.size_alloc] at hz9
              have hz56 := hb6.size
              have ha1 : (aw ++ [am]).length = aw.length + 1 := by simp
              have hk9 : ∀ g, LS wo nw no (.slice B aw.length bc) g → w9.heap[g]? = wo.heap[g]? := fun g hg => (hg9.block g (by have := hg.1; rw [World.size_alloc]; omega) (fun e => hg.2.2.2 e.symm)).trans ((Below.heap_alloc _ _ _ (by have := hg.1; omega)).trans (hb6.block g hg.1))
              have hkv : ∀ g, g < n9 → w9.heap[g]? = wo.heap[g]? := fun g hg => (hg9.block g (by rw [World.size_alloc]; omega) (fun e => by have := (hlt1.out g e.symm).1; omega)).trans ((Below.heap_alloc _ _ _ (by omega)).trans (hb6.block g (by omega)))
              have hLM9 : Hid (LateM w9 nw no n9 (stW ((l.length : Int), (nn : Int), la) k v st) (reqMsg (stW ((l.length : Int), (nn : Int), la) k v st)) A9' c9' (aw ++ [am])) := by
                have hsz : wo.heap.size ≤ W6.heap.size + 1 := by omega
                have hat9' : (Value.slice A9' (aw ++ [am]).length c9').ownBlock = (Value.slice B aw.length bc).ownBlock ∨ (Value.slice A9' (aw ++ [am]).length c9').ownBlock = some (W6.heap.size + 1) := by
                  rw [ha1]; rw [World.size_alloc] at hat9; exact hat9
                refine ⟨?_, hlm.out.wk.move (hkv nw (by omega)) hk9 (fun g hg => hg.app hsz hz9 hat9'), hlm.out.mg.move (hkv no (by omega)) hk9 (fun g hg => hg.app hsz hz9 hat9')⟩
                rw [ha1]
                exact hO4.out.app hown9 hg9 hat9 (fun g hg => hg.elim)
              have hB9 : Below (n7 + 2) wo w9 := ((hb6.mono (by omega : n7 + 2 ≤ wo.heap.size)).alloc (by omega) (.cells #[.int .i64 am.1, .int .i64 am.2.1, .int .i64 am.2.2.1, .int .i64 am.2.2.2.1, .int .i64 am.2.2.2.2.1, .int .i64 am.2.2.2.2.2.1, .slice V7 am.2.2.2.2.2.2.1.length vc7, .slice B7 am.2.2.2.2.2.2.2.length bc7] 45)).grown hg9 (by rw [World.size_alloc]; omega) (fun g h => by have := (hlt1.out g h).1; omega)
              have hB9' := hbo.trans hB9
              clear hown9 hg9 hat9 hk9 hkv hO4 hO4o HRD hB9 z0 z1 z2 z3 z4 z5 z6 z7 hr6
              go_wp2_with fail
              go_meet
              exact ⟨A9', c9', aw ++ [am], by rw [ha1], by rw [ha1]; omega, by rw [ha1]; omega, by omega, hB9', hLM9.out, Or.inl ⟨rfl, by first | trivial | rfl⟩⟩
            · have hpa' : ((p : Int) == (aw.length : Int)) = false := by rw [beq_eq_false_iff_ne]; omega
              go_wp2_with fail
              go_meet
              exact ⟨B, bc, aw, rfl, by omega, by omega, hn9w, hbo, hlm.out, Or.inr ⟨rfl, by omega⟩⟩
          case rest =>
            obtain ⟨B', bc', aw', rfl, haw2, hpl, hn9x, hbx, hlmx, hpk⟩ := hcut
            obtain ⟨wx, rfl⟩ : ∃ wx : World, wx = wc := ⟨_, rfl⟩
            obtain ⟨ma, u, js, hmk, hun, hmp⟩ : ∃ (ma : Msg) (u : List Nat) (js : Nat), Hid (ma = ansM ((l.length : Int), (nn : Int), la) lb js u) ∧ (joinN u).length ≤ 8192 ∧ Hid (aw'[p]'hpl = ma ∧ (js = k ∧ u = v ∧ aw' = aw ++ [ma] ∨ k < js ∧ aw' = aw ∧ j < os.length)) := by
              rcases hpk.out with ⟨e1, e2⟩ | ⟨e1, e2⟩
              · refine ⟨am, v, k, HAM.out.symm, by omega, ?_, Or.inl ⟨rfl, rfl, e1⟩⟩
                subst e1 e2; simp
              · subst e1
                obtain ⟨js, u, h1, h2, h3⟩ := haws _ (List.getElem_mem hpl)
                exact ⟨_, u, js, h3, h2, rfl, Or.inr ⟨h1, rfl, by
                  rcases Nat.lt_or_ge j os.length with h | h
                  · exact h
                  · have := hp.out; rw [dif_neg (by omega)] at this; omega⟩⟩
            clear hlm hli hn9w hbo hrow s3 g3 f3 a0 a1 a2 a3 a4 a5 a6 a7 s1 s2 g1 g2 f1 f2 ii hown
            obtain ⟨xw, hxw⟩ : ∃ xw, stW ((l.length : Int), (nn : Int), la) k v st = xw := ⟨_, rfl⟩
            rw [hxw] at hlmx
            have HXW := Lib.hid hxw
            have hxl : xw.1.2.2 = la ∧ xw.2.1.length ≤ 8192 ∧ xw.2.2.2.1.length = 0 ∧ xw.2.2.1 = k := by rw [← hxw]; exact ⟨rfl, by show (joinN v).length ≤ _; omega, rfl, rfl⟩
            obtain ⟨hx1, hx2, hx3, hx4⟩ := hxl
            have hml : ma.2.2.2.2.2.2.1.length ≤ 100000000 ∧ ma.2.2.2.1 = js := by
              rw [hmk.out]
              exact ⟨by show (reqL (l.length : Int) (nn : Int) (joinN u)).length ≤ _; rw [reqL_len]; omega, rfl⟩
            obtain ⟨hown, hwk, hmg2⟩ := hlmx.out
            obtain ⟨u0, u1, u2, u3, u4, u5, u6', u7, hrow, A5, c5, P5, pc5, F5, fc5, he, hwv⟩ := hwk
            have hwv' : WkVal wx (LS wx nw no (.slice B' aw'.length bc')) xw (.agg #[u0, u1, u2, u3, u4, u5, u6', u7]) := ⟨A5, c5, P5, pc5, F5, fc5, he, hwv⟩
            simp only [Value.agg.injEq, Array.mk.injEq, List.cons.injEq, and_true] at he
            obtain ⟨rfl, rfl, rfl, rfl, rfl, rfl, rfl, rfl⟩ := he
            obtain ⟨_, hp1, hp2, hpS⟩ := hown.parts
            obtain ⟨b6, o6, cs6, e6, hb6S, hcs6, hrd6⟩ := hpS.at_ hpl
            rw [hmp.out.1] at hrd6
            obtain ⟨V6, vc6, Bd6, bc6, hcs6e, mi6⟩ := hrd6
            have hmv6 : MsgVal wx (fun g => Nw n9 wx.heap.size g ∧ ¬ False) ma (.agg #[.int .i64 ma.1, .int .i64 ma.2.1, .int .i64 ma.2.2.1, .int .i64 ma.2.2.2.1, .int .i64 ma.2.2.2.2.1, .int .i64 ma.2.2.2.2.2.1, .slice V6 ma.2.2.2.2.2.2.1.length vc6, .slice Bd6 ma.2.2.2.2.2.2.2.length bc6]) := ⟨V6, vc6, Bd6, bc6, rfl, mi6⟩
            subst e6 hcs6e
            obtain ⟨nz9, hnq⟩ : ∃ nz9, wx.heap.size = nz9 := ⟨_, rfl⟩
            have hnqs : nz9 ≤ wx.heap.size ∧ wx.heap.size ≤ nz9 := by omega
            have hnw9 : nw < nz9 := by omega
            have hbq : b6 < nz9 := by rw [← hnq]; exact hb6S.1.2
            obtain ⟨X, hX⟩ : ∃ X, learnW xw ma = X := ⟨_, rfl⟩
            obtain ⟨M, hM⟩ : ∃ M, learnM xw ma = M := ⟨_, rfl⟩
            obtain ⟨E, hE⟩ : ∃ E, learnE xw ma = E := ⟨_, rfl⟩
            have HLN := Lib.hid (fun W (hb : Below nz9 wx W) => learn_gen xw ma _ _ W (hwv'.keep (fun g hg => hb.block g (by have := hg.1; omega)) (fun g hg => by have h1 := hg.1; have h2 := hb.size; show g < W.heap.size; omega)) (hmv6.keep (fun g hg => hb.block g (by have := hg.1.2; omega)) (fun g hg => by have h1 := hg.1.2; have h2 := hb.size; show g < W.heap.size; omega)) (by rw [hx1]; omega) (by omega) (by omega) hml.1 (by rw [hx1]; exact HTWO.out.ta.rows))
            rw [hX, hM, hE] at HLN
            have HC : Hid (∀ W, Below nz9 wx W → ((W.cell? ⟨nw, 0, none⟩ = some (.int .i64 xw.1.1) ∧ W.cell? ⟨nw, 1, none⟩ = some (.int .i64 xw.1.2.1) ∧ W.cell? ⟨nw, 2, none⟩ = some (.slice A5 xw.1.2.2.length c5) ∧ W.cell? ⟨nw, 3, none⟩ = some (.slice P5 xw.2.1.length pc5)) ∧ (W.cell? ⟨nw, 4, none⟩ = some (.int .i64 xw.2.2.1) ∧ W.cell? ⟨nw, 5, none⟩ = some (.slice F5 xw.2.2.2.1.length fc5) ∧ W.cell? ⟨nw, 6, none⟩ = some (.int .i64 xw.2.2.2.2.1) ∧ W.cell? ⟨nw, 7, none⟩ = some (.bool xw.2.2.2.2.2))) ∧
                (W.cell? ⟨b6, o6 + p * 8, none⟩ = some (.int .i64 ma.1) ∧ W.cell? ⟨b6, o6 + p * 8 + 1, none⟩ = some (.int .i64 ma.2.1) ∧ W.cell? ⟨b6, o6 + p * 8 + 2, none⟩ = some (.int .i64 ma.2.2.1) ∧ W.cell? ⟨b6, o6 + p * 8 + 3, none⟩ = some (.int .i64 ma.2.2.2.1)) ∧
                (W.cell? ⟨b6, o6 + p * 8 + 4, none⟩ = some (.int .i64 ma.2.2.2.2.1) ∧ W.cell? ⟨b6, o6 + p * 8 + 5, none⟩ = some (.int .i64 ma.2.2.2.2.2.1) ∧ W.cell? ⟨b6, o6 + p * 8 + 6, none⟩ = some (.slice V6 ma.2.2.2.2.2.2.1.length vc6) ∧ W.cell? ⟨b6, o6 + p * 8 + 7, none⟩ = some (.slice Bd6 ma.2.2.2.2.2.2.2.length bc6))) := fun W hb => by
              obtain ⟨a0, a1, a2, a3, a4, a5, a6, a7, _⟩ := blk8 ((hb.block nw hnw9).trans hrow)
              have hg : ∀ i, W.cell? ⟨b6, i, none⟩ = wx.cell? ⟨b6, i, none⟩ := fun i => World.cell?_of_block (hb.block b6 hbq)
              exact ⟨⟨⟨a0, a1, a2, a3⟩, a4, a5, a6, a7⟩, ⟨(hg _).trans (hcs6 0 _ rfl), (hg _).trans (hcs6 1 _ rfl), (hg _).trans (hcs6 2 _ rfl), (hg _).trans (hcs6 3 _ rfl)⟩, (hg _).trans (hcs6 4 _ rfl), (hg _).trans (hcs6 5 _ rfl), (hg _).trans (hcs6 6 _ rfl), (hg _).trans (hcs6 7 _ rfl)⟩
            have hp0 : (0 : Int) ≤ p := by omega
            have hpi : (p : Int) < aw'.length := by omega
            have hSw : Below nz9 wx wx.drew := (Below.refl nz9 wx).drew
            have HXE := Lib.hid (And.intro hX (And.intro hM hE))
            have HX4 := Lib.hid hx4
            have HML := Lib.hid hml
            clear hx3 hx4 hml hcs6 hX hM hE hwv hwv' hmv6 mi6 hrow hx1 hxw hnq hown
            go_upto_region 20 with (fail)
            go_cut [19, 20, 21] (fun e f g wy => ∃ (nb : Nat) (B8 : Option Addr) (bc8 : Nat), e = .pointer (some ⟨nb, 0, none⟩) ∧ f = .slice B8 M.length bc8 ∧ g = .int .i64 E ∧ nz9 ≤ nb ∧ Below nz9 wx wy ∧ WkIn wy (fun g => Nw nz9 wy.heap.size g ∧ g ≠ nb) nb X ∧ M.length ≤ bc8 ∧ bc8 ≤ maxLen ∧ SlAt encMsg wy (fun g => Nw nz9 wy.heap.size g ∧ g ≠ nb) B8 M)
            case first =>
              refine wp_region_U (fun W' => Below nz9 wx W') 14 (by kernel_rfl) ?_
              refine wpAnyU_takeD (i := 0) (v := ?_) rfl rfl (by kernel_rfl) (by kernel_rfl) (by kernel_rfl) (by kernel_rfl) (fun _ _ _ h => h) (by rfl) ?_ hSw ?_
              rotate_left 1
              · intro W9 hW9
                try dsimp only at hW9
                obtain ⟨⟨⟨a0, a1, a2, a3⟩, a4, a5, a6, a7⟩, ⟨b0, b1, b2, b3⟩, b4, b5, b6, b7⟩ := HC.out W9 hW9
                go_simp
                try with_reducible rfl
              try simp only [List.setIfInBounds_toArray, List.set_cons_zero, List.set_cons_succ]
              refine wpAnyU_takeD (i := 1) (v := ?_) rfl rfl (by kernel_rfl) (by kernel_rfl) (by kernel_rfl) (by kernel_rfl) (fun _ _ _ h => h) (by rfl) ?_ hSw ?_
              rotate_left 1
              · intro W9 hW9
                try dsimp only at hW9
                obtain _ := trivial
                go_simp
                try with_reducible rfl
              try simp only [List.setIfInBounds_toArray, List.set_cons_zero, List.set_cons_succ]
              refine wpAnyU_takeD (i := 2) (v := ?_) rfl rfl (by kernel_rfl) (by kernel_rfl) (by kernel_rfl) (by kernel_rfl) (fun _ _ _ h => h) (by rfl) ?_ hSw ?_
              rotate_left 1
              · intro W9 hW9
                try dsimp only at hW9
                obtain _ := trivial
                go_simp
                try with_reducible rfl
              try simp only [List.setIfInBounds_toArray, List.set_cons_zero, List.set_cons_succ]
              refine wpAnyU_takeD (i := 3) (v := ?_) rfl rfl (by kernel_rfl) (by kernel_rfl) (by kernel_rfl) (by kernel_rfl) (fun _ _ _ h => h) (by rfl) ?_ hSw ?_
              rotate_left 1
              · intro W9 hW9
                try dsimp only at hW9
                obtain _ := trivial
                go_simp
                try with_reducible rfl
              try simp only [List.setIfInBounds_toArray, List.set_cons_zero, List.set_cons_succ]
              refine wpAnyU_takeD (i := 4) (v := ?_) rfl rfl (by kernel_rfl) (by kernel_rfl) (by kernel_rfl) (by kernel_rfl) (fun _ _ _ h => h) (by rfl) ?_ hSw ?_
              rotate_left 1
              · intro W9 hW9
                try dsimp only at hW9
                obtain ⟨⟨⟨a0, a1, a2, a3⟩, a4, a5, a6, a7⟩, ⟨b0, b1, b2, b3⟩, b4, b5, b6, b7⟩ := HC.out W9 hW9
                go_simp
                try with_reducible rfl
              try simp only [List.setIfInBounds_toArray, List.set_cons_zero, List.set_cons_succ]
              refine wpAnyU_two (i := 5) (j := 10) (by kernel_rfl) rfl rfl rfl rfl (fun K hK => ?_) (fun K hK => ?_)
              · go_wp2_with fail
                refine (HLN.out _ hSw).mono ?_
                rintro e w6 ⟨v8, B8, bc8, rfl, ⟨A7, c7, P7, pc7, F7, fc7, rfl, ⟨t1, t2, t3⟩, ⟨t4, t5, t6⟩, ⟨t7, t8, t9⟩, ti⟩, m1, m2, m3, hb6⟩
                have hS6 : Below nz9 wx w6 := hSw.trans (hb6.mono (by have := hSw.size; omega))
                refine hK.out _ _ (fun _ => hS6) ?_
                clear hK K hSw
                have hSw := hS6
                try simp only [Act.put, List.setIfInBounds_toArray, List.set_cons_zero, List.set_cons_succ]
                refine wpAnyU_takeD (i := 6) (v := ?_) rfl rfl (by kernel_rfl) (by kernel_rfl) (by kernel_rfl) (by kernel_rfl) (fun _ _ _ h => h) (by rfl) ?_ hSw ?_
                rotate_left 1
                · intro W9 hW9
                  try dsimp only at hW9
                  obtain _ := trivial
                  go_simp
                  try with_reducible rfl
                try simp only [List.setIfInBounds_toArray, List.set_cons_zero, List.set_cons_succ]
                refine wpAnyU_takeD (i := 7) (v := ?_) rfl rfl (by kernel_rfl) (by kernel_rfl) (by kernel_rfl) (by kernel_rfl) (fun _ _ _ h => h) (by rfl) ?_ hSw ?_
                rotate_left 1
                · intro W9 hW9
                  try dsimp only at hW9
                  obtain _ := trivial
                  go_simp
                  try with_reducible rfl
                try simp only [List.setIfInBounds_toArray, List.set_cons_zero, List.set_cons_succ]
                refine wpAnyU_takeD (i := 8) (v := ?_) rfl rfl (by kernel_rfl) (by kernel_rfl) (by kernel_rfl) (by kernel_rfl) (fun _ _ _ h => h) (by rfl) ?_ hSw ?_
                rotate_left 1
                · intro W9 hW9
                  try dsimp only at hW9
                  obtain _ := trivial
                  go_simp
                  try with_reducible rfl
                try simp only [List.setIfInBounds_toArray, List.set_cons_zero, List.set_cons_succ]
                refine wpAnyU_takeD (i := 9) (v := ?_) rfl rfl (by kernel_rfl) (by kernel_rfl) (by kernel_rfl) (by kernel_rfl) (fun _ _ _ h => h) (by rfl) ?_ hSw ?_
                rotate_left 1
                · intro W9 hW9
                  try dsimp only at hW9
                  obtain _ := trivial
                  go_simp
                  try with_reducible rfl
                try simp only [List.setIfInBounds_toArray, List.set_cons_zero, List.set_cons_succ]
                have hwz : wx.drew.heap.size = wx.heap.size := rfl
                have hz6 := hS6.size
                have hnbq : nz9 ≤ w6.heap.size := by omega
                have hal : ∀ o : Obj, Below nz9 wx (w6.alloc o) := fun o => hS6.alloc (by omega) o
                have HAL := Lib.hid hal
                clear hal
                refine wpAnyU_op (i := 10) (by kernel_rfl) rfl rfl (fun K hK => ?_)
                go_simp
                refine hK.out _ _ (fun _ => HAL.out _) ?_
                clear hK K
                try simp only [Act.put, List.setIfInBounds_toArray, List.set_cons_zero, List.set_cons_succ]
                have hSB := Lib.hid (HAL.out (.cells #[.int .i64 0, .int .i64 0, .slice none 0 0, .slice none 0 0, .int .i64 0, .slice none 0 0, .int .i64 0, .bool false] 27))
                have hrB : Hid ((w6.alloc (.cells #[.int .i64 0, .int .i64 0, .slice none 0 0, .slice none 0 0, .int .i64 0, .slice none 0 0, .int .i64 0, .bool false] 27)).heap[w6.heap.size]? = some (.cells #[.int .i64 0, .int .i64 0, .slice none 0 0, .slice none 0 0, .int .i64 0, .slice none 0 0, .int .i64 0, .bool false] 27 (0, 0))) := heap_alloc_new _ _
                have hkB : ∀ g, Nw wx.drew.heap.size w6.heap.size g → (w6.alloc (.cells #[.int .i64 0, .int .i64 0, .slice none 0 0, .slice none 0 0, .int .i64 0, .slice none 0 0, .int .i64 0, .bool false] 27)).heap[g]? = w6.heap[g]? := fun g hg => Below.heap_alloc _ _ _ hg.2
                have hmB : ∀ g, Nw wx.drew.heap.size w6.heap.size g → Nw nz9 (w6.alloc (.cells #[.int .i64 0, .int .i64 0, .slice none 0 0, .slice none 0 0, .int .i64 0, .slice none 0 0, .int .i64 0, .bool false] 27)).heap.size g ∧ g ≠ w6.heap.size := fun g hg => ⟨⟨by have := hg.1; omega, by have := hg.2; rw [World.size_alloc]; omega⟩, by have := hg.2; omega⟩
                change wpAnyU _ _ _ _ _ _ _ _ _ (w6.alloc (.cells #[.int .i64 0, .int .i64 0, .slice none 0 0, .slice none 0 0, .int .i64 0, .slice none 0 0, .int .i64 0, .bool false] 27))
                generalize w6.alloc (.cells #[.int .i64 0, .int .i64 0, .slice none 0 0, .slice none 0 0, .int .i64 0, .slice none 0 0, .int .i64 0, .bool false] 27) = WB at hSB hrB hkB hmB ⊢
                have hVB : Hid (WkVal WB (fun g => Nw nz9 WB.heap.size g ∧ g ≠ w6.heap.size) X (.agg #[.int .i64 X.1.1, .int .i64 X.1.2.1, .slice A7 X.1.2.2.length c7, .slice P7 X.2.1.length pc7, .int .i64 X.2.2.1, .slice F7 X.2.2.2.1.length fc7, .int .i64 X.2.2.2.2.1, .bool X.2.2.2.2.2])) :=
                  ⟨A7, c7, P7, pc7, F7, fc7, rfl, ⟨t1, t2, (t3.blk hkB).more hmB⟩, ⟨t4, t5, (t6.blk hkB).more hmB⟩, ⟨t7, t8, (t9.blk hkB).more hmB⟩, ti⟩
                have hMB : Hid (SlAt encMsg WB (fun g => Nw nz9 WB.heap.size g ∧ g ≠ w6.heap.size) B8 M) := (m3.blk hkB).more hmB
                clear hkB hmB t3 t6 t9 m3 HAL hb6
                obtain ⟨z0, z1, z2, z3, z4, z5, z6, z7, zf⟩ := blk8 hrB.out
                have hS7 := set8_below hSB.out (show nz9 ≤ w6.heap.size by have := hnbq; omega) (.int .i64 X.1.1) (.int .i64 X.1.2.1) (.slice A7 X.1.2.2.length c7) (.slice P7 X.2.1.length pc7) (.int .i64 X.2.2.1) (.slice F7 X.2.2.2.1.length fc7) (.int .i64 X.2.2.2.2.1) (.bool X.2.2.2.2.2)
                have HS7 := Lib.hid hS7
                clear hS7
                refine wpAnyU_op (i := 11) (by kernel_rfl) rfl rfl (fun K hK => ?_)
                go_simp
                refine hK.out _ _ (fun _ => HS7.out) ?_
                have hS7 := HS7.out
                clear hK K z0 z1 z2 z3 z4 z5 z6 z7 zf
                have ho7 : ∀ g, (Nw nz9 WB.heap.size g ∧ g ≠ w6.heap.size) → (set8 WB w6.heap.size (.int .i64 X.1.1) (.int .i64 X.1.2.1) (.slice A7 X.1.2.2.length c7) (.slice P7 X.2.1.length pc7) (.int .i64 X.2.2.1) (.slice F7 X.2.2.2.1.length fc7) (.int .i64 X.2.2.2.2.1) (.bool X.2.2.2.2.2)).heap[g]? = WB.heap[g]? := fun g hg => set8_other hg.2 _ _ _ _ _ _ _ _
                have hr7 := set8_row hrB.out (.int .i64 X.1.1) (.int .i64 X.1.2.1) (.slice A7 X.1.2.2.length c7) (.slice P7 X.2.1.length pc7) (.int .i64 X.2.2.1) (.slice F7 X.2.2.2.1.length fc7) (.int .i64 X.2.2.2.2.1) (.bool X.2.2.2.2.2)
                have hz7 : (set8 WB w6.heap.size (.int .i64 X.1.1) (.int .i64 X.1.2.1) (.slice A7 X.1.2.2.length c7) (.slice P7 X.2.1.length pc7) (.int .i64 X.2.2.1) (.slice F7 X.2.2.2.1.length fc7) (.int .i64 X.2.2.2.2.1) (.bool X.2.2.2.2.2)).heap.size = WB.heap.size := set8_sz
                have hxx7 : Hid (WkIn (set8 WB w6.heap.size (.int .i64 X.1.1) (.int .i64 X.1.2.1) (.slice A7 X.1.2.2.length c7) (.slice P7 X.2.1.length pc7) (.int .i64 X.2.2.1) (.slice F7 X.2.2.2.1.length fc7) (.int .i64 X.2.2.2.2.1) (.bool X.2.2.2.2.2)) (fun g => Nw nz9 (set8 WB w6.heap.size (.int .i64 X.1.1) (.int .i64 X.1.2.1) (.slice A7 X.1.2.2.length c7) (.slice P7 X.2.1.length pc7) (.int .i64 X.2.2.1) (.slice F7 X.2.2.2.1.length fc7) (.int .i64 X.2.2.2.2.1) (.bool X.2.2.2.2.2)).heap.size g ∧ g ≠ w6.heap.size) w6.heap.size X) := by
                  rw [Hid, hz7]
                  exact ⟨_, _, _, _, _, _, _, _, hr7, hVB.out.keep ho7 (fun g h => h)⟩
                have hms7 : Hid (SlAt encMsg (set8 WB w6.heap.size (.int .i64 X.1.1) (.int .i64 X.1.2.1) (.slice A7 X.1.2.2.length c7) (.slice P7 X.2.1.length pc7) (.int .i64 X.2.2.1) (.slice F7 X.2.2.2.1.length fc7) (.int .i64 X.2.2.2.2.1) (.bool X.2.2.2.2.2)) (fun g => Nw nz9 (set8 WB w6.heap.size (.int .i64 X.1.1) (.int .i64 X.1.2.1) (.slice A7 X.1.2.2.length c7) (.slice P7 X.2.1.length pc7) (.int .i64 X.2.2.1) (.slice F7 X.2.2.2.1.length fc7) (.int .i64 X.2.2.2.2.1) (.bool X.2.2.2.2.2)).heap.size g ∧ g ≠ w6.heap.size) B8 M) := by
                  rw [Hid, hz7]
                  exact hMB.out.blk ho7
                change wpAnyU _ _ _ _ _ _ _ _ _ (set8 WB w6.heap.size (.int .i64 X.1.1) (.int .i64 X.1.2.1) (.slice A7 X.1.2.2.length c7) (.slice P7 X.2.1.length pc7) (.int .i64 X.2.2.1) (.slice F7 X.2.2.2.1.length fc7) (.int .i64 X.2.2.2.2.1) (.bool X.2.2.2.2.2))
                clear ho7 hr7 hz7 hVB hMB
                generalize set8 WB w6.heap.size (.int .i64 X.1.1) (.int .i64 X.1.2.1) (.slice A7 X.1.2.2.length c7) (.slice P7 X.2.1.length pc7) (.int .i64 X.2.2.1) (.slice F7 X.2.2.2.1.length fc7) (.int .i64 X.2.2.2.2.1) (.bool X.2.2.2.2.2) = W7 at hS7 hxx7 hms7 ⊢
                clear HS7
                try simp only [Act.put, List.setIfInBounds_toArray, List.set_cons_zero, List.set_cons_succ]
                refine wpAnyU_op (i := 12) (by kernel_rfl) rfl rfl (fun K hK => ?_)
                go_simp
                refine hK.out _ _ (fun _ => hS7) ?_
                clear hK K
                try simp only [Act.put, List.setIfInBounds_toArray, List.set_cons_zero, List.set_cons_succ]
                refine wpAnyU_op (i := 13) (by kernel_rfl) rfl rfl (fun K hK => ?_)
                go_simp
                refine hK.out _ _ (fun _ => hS7) ?_
                clear hK K
                try simp only [Act.put, List.setIfInBounds_toArray, List.set_cons_zero, List.set_cons_succ]
                refine wpAnyU_done (by kernel_rfl) ?_ _
                go_wp2
                go_meet
                exact ⟨w6.heap.size, B8, bc8, rfl, rfl, rfl, hnbq, hS7, hxx7.out, ⟨m1, m2, hms7.out⟩⟩
              · have hal : ∀ o : Obj, Below nz9 wx (wx.drew.alloc o) := fun o => hSw.alloc (by have := hSw.size; omega) o
                have HAL := Lib.hid hal
                clear hal
                go_simp
                refine hK.out _ _ (fun _ => HAL.out _) ?_
                clear hK K hSw
                try simp only [Act.put, List.setIfInBounds_toArray, List.set_cons_zero, List.set_cons_succ]
                have hSw := HAL.out (.cells #[.int .i64 0, .int .i64 0, .slice none 0 0, .slice none 0 0, .int .i64 0, .slice none 0 0, .int .i64 0, .bool false] 27)
                have hrA : (wx.drew.alloc (.cells #[.int .i64 0, .int .i64 0, .slice none 0 0, .slice none 0 0, .int .i64 0, .slice none 0 0, .int .i64 0, .bool false] 27)).heap[wx.heap.size]? = some (.cells #[.int .i64 0, .int .i64 0, .slice none 0 0, .slice none 0 0, .int .i64 0, .slice none 0 0, .int .i64 0, .bool false] 27 (0, 0)) := heap_alloc_new wx.drew _
                change wpAnyU _ _ _ _ _ _ _ _ _ (wx.drew.alloc (.cells #[.int .i64 0, .int .i64 0, .slice none 0 0, .slice none 0 0, .int .i64 0, .slice none 0 0, .int .i64 0, .bool false] 27))
                generalize wx.drew.alloc (.cells #[.int .i64 0, .int .i64 0, .slice none 0 0, .slice none 0 0, .int .i64 0, .slice none 0 0, .int .i64 0, .bool false] 27) = WA at hSw hrA ⊢
                have hlA : wx.heap.size < WA.heap.size := (Array.getElem?_eq_some_iff.1 hrA).1
                refine wpAnyU_op (i := 5) (by kernel_rfl) rfl rfl (fun K hK => ?_)
                go_wp2_with fail
                refine (HLN.out _ hSw).mono ?_
                rintro e WB ⟨v8, B8, bc8, rfl, ⟨A7, c7, P7, pc7, F7, fc7, rfl, ⟨t1, t2, t3⟩, ⟨t4, t5, t6⟩, ⟨t7, t8, t9⟩, ti⟩, m1, m2, m3, hb6⟩
                have hS6 : Below nz9 wx WB := hSw.trans (hb6.mono (by have := hSw.size; omega))
                refine hK.out _ _ (fun _ => hS6) ?_
                clear hK K hSw HAL
                have hSw := hS6
                try simp only [Act.put, List.setIfInBounds_toArray, List.set_cons_zero, List.set_cons_succ]
                refine wpAnyU_takeD (i := 6) (v := ?_) rfl rfl (by kernel_rfl) (by kernel_rfl) (by kernel_rfl) (by kernel_rfl) (fun _ _ _ h => h) (by rfl) ?_ hSw ?_
                rotate_left 1
                · intro W9 hW9
                  try dsimp only at hW9
                  obtain _ := trivial
                  go_simp
                  try with_reducible rfl
                try simp only [List.setIfInBounds_toArray, List.set_cons_zero, List.set_cons_succ]
                refine wpAnyU_takeD (i := 7) (v := ?_) rfl rfl (by kernel_rfl) (by kernel_rfl) (by kernel_rfl) (by kernel_rfl) (fun _ _ _ h => h) (by rfl) ?_ hSw ?_
                rotate_left 1
                · intro W9 hW9
                  try dsimp only at hW9
                  obtain _ := trivial
                  go_simp
                  try with_reducible rfl
                try simp only [List.setIfInBounds_toArray, List.set_cons_zero, List.set_cons_succ]
                refine wpAnyU_takeD (i := 8) (v := ?_) rfl rfl (by kernel_rfl) (by kernel_rfl) (by kernel_rfl) (by kernel_rfl) (fun _ _ _ h => h) (by rfl) ?_ hSw ?_
                rotate_left 1
                · intro W9 hW9
                  try dsimp only at hW9
                  obtain _ := trivial
                  go_simp
                  try with_reducible rfl
                try simp only [List.setIfInBounds_toArray, List.set_cons_zero, List.set_cons_succ]
                refine wpAnyU_takeD (i := 9) (v := ?_) rfl rfl (by kernel_rfl) (by kernel_rfl) (by kernel_rfl) (by kernel_rfl) (fun _ _ _ h => h) (by rfl) ?_ hSw ?_
                rotate_left 1
                · intro W9 hW9
                  try dsimp only at hW9
                  obtain _ := trivial
                  go_simp
                  try with_reducible rfl
                try simp only [List.setIfInBounds_toArray, List.set_cons_zero, List.set_cons_succ]
                have hnbq : nz9 ≤ wx.heap.size := by omega
                have hSB := Lib.hid hS6
                have hrB := Lib.hid ((hb6.block _ hlA).trans hrA)
                have hmB : ∀ g, Nw WA.heap.size WB.heap.size g → Nw nz9 WB.heap.size g ∧ g ≠ wx.heap.size := fun g hg => ⟨⟨by have := hg.1; omega, hg.2⟩, by have := hg.1; omega⟩
                have hVB : Hid (WkVal WB (fun g => Nw nz9 WB.heap.size g ∧ g ≠ wx.heap.size) X (.agg #[.int .i64 X.1.1, .int .i64 X.1.2.1, .slice A7 X.1.2.2.length c7, .slice P7 X.2.1.length pc7, .int .i64 X.2.2.1, .slice F7 X.2.2.2.1.length fc7, .int .i64 X.2.2.2.2.1, .bool X.2.2.2.2.2])) :=
                  ⟨A7, c7, P7, pc7, F7, fc7, rfl, ⟨t1, t2, t3.more hmB⟩, ⟨t4, t5, t6.more hmB⟩, ⟨t7, t8, t9.more hmB⟩, ti⟩
                have hMB : Hid (SlAt encMsg WB (fun g => Nw nz9 WB.heap.size g ∧ g ≠ wx.heap.size) B8 M) := m3.more hmB
                clear hmB t3 t6 t9 m3 hrA
                obtain ⟨z0, z1, z2, z3, z4, z5, z6, z7, zf⟩ := blk8 hrB.out
                have hS7 := set8_below hSB.out (show nz9 ≤ wx.heap.size by have := hnbq; omega) (.int .i64 X.1.1) (.int .i64 X.1.2.1) (.slice A7 X.1.2.2.length c7) (.slice P7 X.2.1.length pc7) (.int .i64 X.2.2.1) (.slice F7 X.2.2.2.1.length fc7) (.int .i64 X.2.2.2.2.1) (.bool X.2.2.2.2.2)
                have HS7 := Lib.hid hS7
                clear hS7
                refine wpAnyU_op (i := 11) (by kernel_rfl) rfl rfl (fun K hK => ?_)
                go_simp
                refine hK.out _ _ (fun _ => HS7.out) ?_
                have hS7 := HS7.out
                clear hK K z0 z1 z2 z3 z4 z5 z6 z7 zf
                have ho7 : ∀ g, (Nw nz9 WB.heap.size g ∧ g ≠ wx.heap.size) → (set8 WB wx.heap.size (.int .i64 X.1.1) (.int .i64 X.1.2.1) (.slice A7 X.1.2.2.length c7) (.slice P7 X.2.1.length pc7) (.int .i64 X.2.2.1) (.slice F7 X.2.2.2.1.length fc7) (.int .i64 X.2.2.2.2.1) (.bool X.2.2.2.2.2)).heap[g]? = WB.heap[g]? := fun g hg => set8_other hg.2 _ _ _ _ _ _ _ _
                have hr7 := set8_row hrB.out (.int .i64 X.1.1) (.int .i64 X.1.2.1) (.slice A7 X.1.2.2.length c7) (.slice P7 X.2.1.length pc7) (.int .i64 X.2.2.1) (.slice F7 X.2.2.2.1.length fc7) (.int .i64 X.2.2.2.2.1) (.bool X.2.2.2.2.2)
                have hz7 : (set8 WB wx.heap.size (.int .i64 X.1.1) (.int .i64 X.1.2.1) (.slice A7 X.1.2.2.length c7) (.slice P7 X.2.1.length pc7) (.int .i64 X.2.2.1) (.slice F7 X.2.2.2.1.length fc7) (.int .i64 X.2.2.2.2.1) (.bool X.2.2.2.2.2)).heap.size = WB.heap.size := set8_sz
                have hxx7 : Hid (WkIn (set8 WB wx.heap.size (.int .i64 X.1.1) (.int .i64 X.1.2.1) (.slice A7 X.1.2.2.length c7) (.slice P7 X.2.1.length pc7) (.int .i64 X.2.2.1) (.slice F7 X.2.2.2.1.length fc7) (.int .i64 X.2.2.2.2.1) (.bool X.2.2.2.2.2)) (fun g => Nw nz9 (set8 WB wx.heap.size (.int .i64 X.1.1) (.int .i64 X.1.2.1) (.slice A7 X.1.2.2.length c7) (.slice P7 X.2.1.length pc7) (.int .i64 X.2.2.1) (.slice F7 X.2.2.2.1.length fc7) (.int .i64 X.2.2.2.2.1) (.bool X.2.2.2.2.2)).heap.size g ∧ g ≠ wx.heap.size) wx.heap.size X) := by
                  rw [Hid, hz7]
                  exact ⟨_, _, _, _, _, _, _, _, hr7, hVB.out.keep ho7 (fun g h => h)⟩
                have hms7 : Hid (SlAt encMsg (set8 WB wx.heap.size (.int .i64 X.1.1) (.int .i64 X.1.2.1) (.slice A7 X.1.2.2.length c7) (.slice P7 X.2.1.length pc7) (.int .i64 X.2.2.1) (.slice F7 X.2.2.2.1.length fc7) (.int .i64 X.2.2.2.2.1) (.bool X.2.2.2.2.2)) (fun g => Nw nz9 (set8 WB wx.heap.size (.int .i64 X.1.1) (.int .i64 X.1.2.1) (.slice A7 X.1.2.2.length c7) (.slice P7 X.2.1.length pc7) (.int .i64 X.2.2.1) (.slice F7 X.2.2.2.1.length fc7) (.int .i64 X.2.2.2.2.1) (.bool X.2.2.2.2.2)).heap.size g ∧ g ≠ wx.heap.size) B8 M) := by
                  rw [Hid, hz7]
                  exact hMB.out.blk ho7
                change wpAnyU _ _ _ _ _ _ _ _ _ (set8 WB wx.heap.size (.int .i64 X.1.1) (.int .i64 X.1.2.1) (.slice A7 X.1.2.2.length c7) (.slice P7 X.2.1.length pc7) (.int .i64 X.2.2.1) (.slice F7 X.2.2.2.1.length fc7) (.int .i64 X.2.2.2.2.1) (.bool X.2.2.2.2.2))
                clear ho7 hr7 hz7 hVB hMB
                generalize set8 WB wx.heap.size (.int .i64 X.1.1) (.int .i64 X.1.2.1) (.slice A7 X.1.2.2.length c7) (.slice P7 X.2.1.length pc7) (.int .i64 X.2.2.1) (.slice F7 X.2.2.2.1.length fc7) (.int .i64 X.2.2.2.2.1) (.bool X.2.2.2.2.2) = W7 at hS7 hxx7 hms7 ⊢
                clear HS7
                try simp only [Act.put, List.setIfInBounds_toArray, List.set_cons_zero, List.set_cons_succ]
                refine wpAnyU_op (i := 12) (by kernel_rfl) rfl rfl (fun K hK => ?_)
                go_simp
                refine hK.out _ _ (fun _ => hS7) ?_
                clear hK K
                try simp only [Act.put, List.setIfInBounds_toArray, List.set_cons_zero, List.set_cons_succ]
                refine wpAnyU_op (i := 13) (by kernel_rfl) rfl rfl (fun K hK => ?_)
                go_simp
                refine hK.out _ _ (fun _ => hS7) ?_
                clear hK K
                try simp only [Act.put, List.setIfInBounds_toArray, List.set_cons_zero, List.set_cons_succ]
                refine wpAnyU_done (by kernel_rfl) ?_ _
                go_wp2
                go_meet
                exact ⟨wx.heap.size, B8, bc8, rfl, rfl, rfl, hnbq, hS7, hxx7.out, ⟨m1, m2, hms7.out⟩⟩
            case rest =>
              obtain ⟨nb, B8, bc8, rfl, rfl, rfl, hnbq, hbxy, hwkX, m1, m2, hM8⟩ := hcut
              obtain ⟨wy, rfl⟩ : ∃ wy : World, wy = wc := ⟨_, rfl⟩
              have hzy := hbxy.size
              have hb2y : Below (n7 + 2) W2 wy := hbx.trans (hbxy.mono (by omega))
              obtain ⟨hown, hwk, hmg2⟩ := hlmx.out
              have hlt2 := hown.lt
              rcases hmp.out.2 with ⟨rfl, rfl, hawe⟩ | ⟨hjs, hawe, hjN⟩
              · obtain ⟨hLE, hRI, hlvl⟩ := runI_step HTWO.out.ca HTWO.out.ta HU1.out HU2.out hk hv hvb hvne hst hrun
                rw [← hmk.out, HXW.out] at hLE hRI hlvl
                rw [HXE.out.2.2] at hLE
                rw [HXE.out.1, HXE.out.2.1] at hRI
                rw [HXE.out.1, HXE.out.2.1] at hlvl
                subst hLE
                obtain ⟨u0, u1, u2, u3, u4, u5, u6x, u7, hrX, A7, c7, P7, pc7, F7, fc7, he, ⟨t1, t2, t3⟩, ⟨t4, t5, t6⟩, ⟨t7, t8, t9⟩, ti⟩ := hwkX
                simp only [Value.agg.injEq, Array.mk.injEq, List.cons.injEq, and_true] at he
                obtain ⟨rfl, rfl, rfl, rfl, rfl, rfl, rfl, rfl⟩ := he
                obtain ⟨y0, y1x, y2x, y3x, y4x, y5x, y6x, y7x, hrw, _⟩ := hwk
                have hrw9 := (hbxy.block nw (by omega)).trans hrw
                obtain ⟨e0, e1, e2, e3, e4, e5, e6, e7, _⟩ := blk8 hrX
                obtain ⟨z0, z1, z2, z3, z4, z5, z6, z7, zf⟩ := blk8 hrw9
                have hnn : (0 : Int) = 0 := rfl
                have HAWE := Lib.hid hawe
                have HRIX := Lib.hid hRI
                have HLVX := Lib.hid hlvl
                clear hawe hRI hlvl hnn hrw
                go_upto_region 25 with (fail)
                clear e0 e1 e2 e3 e4 e5 e6 e7 z0 z1 z2 z3 z4 z5 z6 z7 zf
                change Code.wp _ _ _ _ (set8 wy nw (.int .i64 X.1.1) (.int .i64 X.1.2.1) (.slice A7 X.1.2.2.length c7) (.slice P7 X.2.1.length pc7) (.int .i64 X.2.2.1) (.slice F7 X.2.2.2.1.length fc7) (.int .i64 X.2.2.2.2.1) (.bool X.2.2.2.2.2))
                have hr9 := set8_row hrw9 (.int .i64 X.1.1) (.int .i64 X.1.2.1) (.slice A7 X.1.2.2.length c7) (.slice P7 X.2.1.length pc7) (.int .i64 X.2.2.1) (.slice F7 X.2.2.2.1.length fc7) (.int .i64 X.2.2.2.2.1) (.bool X.2.2.2.2.2)
                have ho9 : ∀ g, g ≠ nw → (set8 wy nw (.int .i64 X.1.1) (.int .i64 X.1.2.1) (.slice A7 X.1.2.2.length c7) (.slice P7 X.2.1.length pc7) (.int .i64 X.2.2.1) (.slice F7 X.2.2.2.1.length fc7) (.int .i64 X.2.2.2.2.1) (.bool X.2.2.2.2.2)).heap[g]? = wy.heap[g]? := fun g hg => set8_other hg _ _ _ _ _ _ _ _
                have hb9 := set8_below (Below.refl nw wy) (Nat.le_refl nw) (.int .i64 X.1.1) (.int .i64 X.1.2.1) (.slice A7 X.1.2.2.length c7) (.slice P7 X.2.1.length pc7) (.int .i64 X.2.2.1) (.slice F7 X.2.2.2.1.length fc7) (.int .i64 X.2.2.2.2.1) (.bool X.2.2.2.2.2)
                have hsz9 : (set8 wy nw (.int .i64 X.1.1) (.int .i64 X.1.2.1) (.slice A7 X.1.2.2.length c7) (.slice P7 X.2.1.length pc7) (.int .i64 X.2.2.1) (.slice F7 X.2.2.2.1.length fc7) (.int .i64 X.2.2.2.2.1) (.bool X.2.2.2.2.2)).heap.size = wy.heap.size := set8_sz
                generalize set8 wy nw (.int .i64 X.1.1) (.int .i64 X.1.2.1) (.slice A7 X.1.2.2.length c7) (.slice P7 X.2.1.length pc7) (.int .i64 X.2.2.1) (.slice F7 X.2.2.2.1.length fc7) (.int .i64 X.2.2.2.2.1) (.bool X.2.2.2.2.2) = W9 at hr9 ho9 hb9 hsz9 ⊢
                have hsz9' : wy.heap.size ≤ W9.heap.size ∧ W9.heap.size ≤ wy.heap.size := by omega
                clear hsz9
                have hown9 := Lib.hid (hown.keep (w' := W9) (by omega) (fun g h1 h2 _ => (ho9 g (by omega)).trans (hbxy.block g (by omega))))
                have hkk : ∀ g, (Nw nz9 wy.heap.size g ∧ g ≠ nb) → W9.heap[g]? = wy.heap[g]? := fun g hg => ho9 g (by have := hg.1.1; omega)
                have hmm : ∀ g, (Nw nz9 wy.heap.size g ∧ g ≠ nb) → LS W9 nw no (.slice (some ⟨b6, o6, none⟩) aw'.length bc') g := fun g hg => ⟨by have := hg.1.2; omega, by have := hg.1.1; omega, by have := hg.1.1; omega, fun e => by have := (hlt2 g e).2; have := hg.1.1; omega⟩
                have hwk9 := Lib.hid (show WkIn W9 (LS W9 nw no (.slice (some ⟨b6, o6, none⟩) aw'.length bc')) nw X from ⟨_, _, _, _, _, _, _, _, hr9, A7, c7, P7, pc7, F7, fc7, rfl, ⟨t1, t2, (t3.blk hkk).more hmm⟩, ⟨t4, t5, (t6.blk hkk).more hmm⟩, ⟨t7, t8, (t9.blk hkk).more hmm⟩, ti⟩)
                have hmg9 := Lib.hid (show MgIn W9 (LS W9 nw no (.slice (some ⟨b6, o6, none⟩) aw'.length bc')) no _ from hmg2.move ((ho9 no (by omega)).trans (hbxy.block no (by omega))) (fun g hg => (ho9 g hg.2.1).trans (hbxy.block g (by have := hg.1; omega))) (fun g hg => ⟨by have := hg.1; omega, hg.2⟩))
                have hM9 := Lib.hid (hM8.blk hkk)
                have hB9 : Below (n7 + 2) W2 W9 := hb2y.trans (hb9.mono (by omega))
                have haj : aw'.length ≤ j + 1 := by rw [HAWE.out]; simp; omega
                clear t3 t6 t9 hkk hM8 hr9 hrw9 hrX hmg2 hown
                rcases HRIX.out with ⟨k', v', s', hX', hM', hk', hv', hvb', hvne', hs', hrun'⟩ | ⟨hX', hM'⟩
                · have hkk' : k' < js := by
                    rcases HLVX.out with h | h
                    · rw [hM'] at h; cases h
                    · rw [hX'] at h; have h : (k' : Int) < (js : Int) := h; omega
                  rw [hM'] at hM9
                  obtain ⟨xq, hxq⟩ : ∃ xq, reqMsg X = xq := ⟨_, rfl⟩
                  rw [hxq] at hM9 hM'
                  have HXQ := Lib.hid hxq
                  obtain ⟨b9, o9, cs9, e9, hb9S, hcs9, hrd9⟩ := hM9.out.at_ (k := 0) (by simp)
                  simp only [List.getElem_cons_zero] at hrd9
                  obtain ⟨V8, vc8, Bd8, bd8, hcs9e, qi, ⟨q1, q2, q3⟩, q4, q5, q6⟩ := hrd9
                  subst e9 hcs9e
                  have c0 := hcs9 0 _ rfl
                  have c1 := hcs9 1 _ rfl
                  have c2x := hcs9 2 _ rfl
                  have c3x := hcs9 3 _ rfl
                  have c4 := hcs9 4 _ rfl
                  have c5x := hcs9 5 _ rfl
                  have c6 := hcs9 6 _ rfl
                  have c7x := hcs9 7 _ rfl
                  simp only [show encMsg.size = 8 from rfl, Nat.zero_mul, Nat.add_zero] at c0 c1 c2x c3x c4 c5x c6 c7x
                  obtain ⟨g0, g1, g2, g3, g4, g5, g6, g7, hrq, _⟩ := hmg9.out
                  obtain ⟨z0, z1, z2, z3, z4, z5, z6, z7, zf⟩ := blk8 hrq
                  have hr10 := set8_row hrq (.int .i64 xq.1) (.int .i64 xq.2.1) (.int .i64 xq.2.2.1) (.int .i64 xq.2.2.2.1) (.int .i64 xq.2.2.2.2.1) (.int .i64 xq.2.2.2.2.2.1) (.slice V8 xq.2.2.2.2.2.2.1.length vc8) (.slice Bd8 xq.2.2.2.2.2.2.2.length bd8)
                  have ho10 : ∀ g, g ≠ no → (set8 W9 no (.int .i64 xq.1) (.int .i64 xq.2.1) (.int .i64 xq.2.2.1) (.int .i64 xq.2.2.2.1) (.int .i64 xq.2.2.2.2.1) (.int .i64 xq.2.2.2.2.2.1) (.slice V8 xq.2.2.2.2.2.2.1.length vc8) (.slice Bd8 xq.2.2.2.2.2.2.2.length bd8)).heap[g]? = W9.heap[g]? := fun g hg => set8_other hg _ _ _ _ _ _ _ _
                  have hb10 := set8_below (Below.refl no W9) (Nat.le_refl no) (.int .i64 xq.1) (.int .i64 xq.2.1) (.int .i64 xq.2.2.1) (.int .i64 xq.2.2.2.1) (.int .i64 xq.2.2.2.2.1) (.int .i64 xq.2.2.2.2.2.1) (.slice V8 xq.2.2.2.2.2.2.1.length vc8) (.slice Bd8 xq.2.2.2.2.2.2.2.length bd8)
                  have hsz10 : (set8 W9 no (.int .i64 xq.1) (.int .i64 xq.2.1) (.int .i64 xq.2.2.1) (.int .i64 xq.2.2.2.1) (.int .i64 xq.2.2.2.2.1) (.int .i64 xq.2.2.2.2.2.1) (.slice V8 xq.2.2.2.2.2.2.1.length vc8) (.slice Bd8 xq.2.2.2.2.2.2.2.length bd8)).heap.size = W9.heap.size := set8_sz
                  have hLM10 : Hid (LateM (set8 W9 no (.int .i64 xq.1) (.int .i64 xq.2.1) (.int .i64 xq.2.2.1) (.int .i64 xq.2.2.2.1) (.int .i64 xq.2.2.2.2.1) (.int .i64 xq.2.2.2.2.2.1) (.slice V8 xq.2.2.2.2.2.2.1.length vc8) (.slice Bd8 xq.2.2.2.2.2.2.2.length bd8)) nw no n9 X xq (some ⟨b6, o6, none⟩) bc' aw') := by
                    have hk10 : ∀ g, (Nw nz9 wy.heap.size g ∧ g ≠ nb) → (set8 W9 no (.int .i64 xq.1) (.int .i64 xq.2.1) (.int .i64 xq.2.2.1) (.int .i64 xq.2.2.2.1) (.int .i64 xq.2.2.2.2.1) (.int .i64 xq.2.2.2.2.2.1) (.slice V8 xq.2.2.2.2.2.2.1.length vc8) (.slice Bd8 xq.2.2.2.2.2.2.2.length bd8)).heap[g]? = W9.heap[g]? := fun g hg => ho10 g (by have := hg.1.1; omega)
                    have hm10 : ∀ g, (Nw nz9 wy.heap.size g ∧ g ≠ nb) → LS (set8 W9 no (.int .i64 xq.1) (.int .i64 xq.2.1) (.int .i64 xq.2.2.1) (.int .i64 xq.2.2.2.1) (.int .i64 xq.2.2.2.2.1) (.int .i64 xq.2.2.2.2.2.1) (.slice V8 xq.2.2.2.2.2.2.1.length vc8) (.slice Bd8 xq.2.2.2.2.2.2.2.length bd8)) nw no (.slice (some ⟨b6, o6, none⟩) aw'.length bc') g := fun g hg => ⟨by rw [hsz10]; exact (hmm g hg).1, (hmm g hg).2⟩
                    refine ⟨hown9.out.keep (by rw [hsz10]; exact Nat.le_refl _) (fun g h1 h2 _ => ho10 g (by omega)), hwk9.out.move (ho10 nw (by omega)) (fun g hg => ho10 g hg.2.2.1) (fun g hg => ⟨by rw [hsz10]; exact hg.1, hg.2⟩), ⟨_, _, _, _, _, _, _, _, hr10, V8, vc8, Bd8, bd8, rfl, qi, ⟨q1, q2, (q3.blk hk10).more hm10⟩, q4, q5, (q6.blk hk10).more hm10⟩⟩
                  have hB10 : Hid (Below (n7 + 2) W2 (set8 W9 no (.int .i64 xq.1) (.int .i64 xq.2.1) (.int .i64 xq.2.2.1) (.int .i64 xq.2.2.2.1) (.int .i64 xq.2.2.2.2.1) (.int .i64 xq.2.2.2.2.2.1) (.slice V8 xq.2.2.2.2.2.2.1.length vc8) (.slice Bd8 xq.2.2.2.2.2.2.2.length bd8))) := hB9.trans (hb10.mono (by omega))
                  have hn10 : Hid (n9 ≤ (set8 W9 no (.int .i64 xq.1) (.int .i64 xq.2.1) (.int .i64 xq.2.2.1) (.int .i64 xq.2.2.2.1) (.int .i64 xq.2.2.2.2.1) (.int .i64 xq.2.2.2.2.2.1) (.slice V8 xq.2.2.2.2.2.2.1.length vc8) (.slice Bd8 xq.2.2.2.2.2.2.2.length bd8)).heap.size) := by rw [Hid, hsz10]; omega
                  have hLI10 : Hid (LateI l.length nn la lb fin X xq aw' (j + 1) os.length) := by
                    refine Or.inl ⟨k', v', s', hX', HXQ.out.symm, hk', hv', hvb', hvne', hs', hrun', fun a ha => ?_, by rcases hlv with h | h <;> omega⟩
                    rw [HAWE.out] at ha
                    rcases List.mem_append.1 ha with ha | ha
                    · obtain ⟨j', u', h1, h2, h3⟩ := haws a ha
                      exact ⟨j', u', by omega, h2, h3⟩
                    · rw [List.mem_singleton.1 ha]
                      exact ⟨_, _, hkk', hun, hmk.out⟩
                  subst hM'
                  have hmj : Hid (os.length + 20 - (intOf (Value.int IntKind.i64 ((j : Int) + 1))).toNat < os.length + 20 - (intOf (Value.int IntKind.i64 (j : Int))).toNat) := by rw [Hid]; simp [intOf]; omega
                  have hj1 : j + 1 ≤ os.length + 20 := by omega
                  clear hcs9 hr10 ho10 hb10 hsz10 q3 q6 hrq hM9 hX' hlv
                  go_wp2_with fail
                  exact ⟨⟨j + 1, X, xq, _, bc', aw', hj1, haj, by go_num, rfl, hn10.out, hB10.out, hLM10.out, hLI10.out⟩, hmj.out⟩
                · have hLI10 : Hid (LateI l.length nn la lb fin X (reqMsg (stW ((l.length : Int), (nn : Int), la) js u st)) aw' (j + 1) os.length) := by
                    refine Or.inr ⟨hX', by rw [HAWE.out]; simp, fun a ha => ?_⟩
                    rw [HAWE.out] at ha
                    rcases List.mem_append.1 ha with ha | ha
                    · obtain ⟨j', u', h1, h2, h3⟩ := haws a ha
                      exact ⟨j', u', h2, h3⟩
                    · rw [List.mem_singleton.1 ha]
                      exact ⟨_, _, hun, hmk.out⟩
                  have hmj : Hid (os.length + 20 - (intOf (Value.int IntKind.i64 ((j : Int) + 1))).toNat < os.length + 20 - (intOf (Value.int IntKind.i64 (j : Int))).toNat) := by rw [Hid]; simp [intOf]; omega
                  have hj1 : j + 1 ≤ os.length + 20 := by omega
                  have hn99 : n9 ≤ W9.heap.size := by omega
                  subst hM'
                  clear hX' hlv
                  go_wp2_with fail
                  exact ⟨⟨j + 1, X, _, _, bc', aw', hj1, haj, by go_num, rfl, hn99, hB9, ⟨hown9.out, hwk9.out, hmg9.out⟩, by rw [HXW.out] at hLI10; exact hLI10.out⟩, hmj.out⟩
              · have hEL : E = 22 := by
                  rw [← HXE.out.2.2, ← HXW.out, hmk.out]
                  exact learn_late HTWO.out.ca HTWO.out.ta hk hv hvb hvne (by omega) (by omega)
                subst hEL
                have hne2 : (ma.2.2.2.1 == xw.2.2.1) = false := by rw [HML.out.2, HX4.out, beq_eq_false_iff_ne]; omega
                obtain ⟨⟨⟨a0, a1, a2, a3⟩, a4, a5, a6, a7⟩, ⟨b0, b1, b2, b3⟩, b4, b5, b6, b7⟩ := HC.out wy hbxy
                have HAWE := Lib.hid hawe
                clear hawe
                by_cases hpl2 : p + 1 = aw'.length
                · have hpl3 : ((p : Int) == (aw'.length : Int) - 1) = true := by rw [beq_iff_eq]; omega
                  clear hpl2
                  have haw3 : (aw'.length : Int) ≤ 62 := by omega
                  go_wp2_with fail
                  go_quiet (fail)
                  generalize hWq : wy.drewN _ = wq
                  have hdq : Drew wy wq := ⟨_, hWq.symm⟩
                  have hbxq : Below nz9 wx wq := hbxy.trans (hdq.below nz9)
                  have HLMQ := Lib.hid (hlmx.out.keep (by omega) (by omega) (hbxq.mono (by omega)))
                  have hb2q : Below (n7 + 2) W2 wq := hb2y.trans (hdq.below _)
                  have hzq := hbxq.size
                  clear hWq a0 a1 a2 a3 a4 a5 a6 a7 b0 b1 b2 b3 b4 b5 b6 b7
                  go_wp2_with fail
                  refine ⟨⟨j + 1, _, _, _, bc', aw', by omega, by rw [HAWE.out]; omega, by go_num, rfl, by omega, hb2q, HLMQ.out, Or.inl ⟨k, v, st, HXW.out.symm, rfl, hk, hv, hvb, hvne, hst, hrun, by rw [HAWE.out]; exact haws, Or.inl hjN⟩⟩, ?_⟩
                  simp [intOf]; omega
                · have hpl3 : ((p : Int) == (aw'.length : Int) - 1) = false := by rw [beq_eq_false_iff_ne]; omega
                  clear hpl2
                  have haw3 : (aw'.length : Int) ≤ 62 := by omega
                  go_wp2_with fail
                  go_quiet (fail)
                  generalize hWq : wy.drewN _ = wq
                  have hdq : Drew wy wq := ⟨_, hWq.symm⟩
                  have hbxq : Below nz9 wx wq := hbxy.trans (hdq.below nz9)
                  have HLMQ := Lib.hid (hlmx.out.keep (by omega) (by omega) (hbxq.mono (by omega)))
                  have hb2q : Below (n7 + 2) W2 wq := hb2y.trans (hdq.below _)
                  have hzq := hbxq.size
                  clear hWq a0 a1 a2 a3 a4 a5 a6 a7 b0 b1 b2 b3 b4 b5 b6 b7
                  go_wp2_with fail
                  refine ⟨⟨j + 1, _, _, _, bc', aw', by omega, by rw [HAWE.out]; omega, by go_num, rfl, by omega, hb2q, HLMQ.out, Or.inl ⟨k, v, st, HXW.out.symm, rfl, hk, hv, hvb, hvne, hst, hrun, by rw [HAWE.out]; exact haws, Or.inl hjN⟩⟩, ?_⟩
                  simp [intOf]; omega
      · obtain ⟨wx, rfl⟩ : ∃ wx : World, wx = wo := ⟨_, rfl⟩
        obtain ⟨ff, hff⟩ : ∃ ff, opL or ((fnd la lb (la.length - 1) [0]).map (leafE l.length nn)) [] = ff := ⟨_, rfl⟩
        obtain ⟨sn, hsn⟩ : ∃ sn, sentN la lb (la.length - 1) [0] = sn := ⟨_, rfl⟩
        have hd1 : difT ((l.length : Int), (nn : Int), la) ((l.length : Int), (nn : Int), lb) = ff := by rw [← hff]; unfold difT; rw [if_pos HTWO.out.err]; rfl
        have hd2 : sentT ((l.length : Int), (nn : Int), la) ((l.length : Int), (nn : Int), lb) = (sn : Int) := by rw [← hsn]; unfold sentT; rw [if_pos HTWO.out.err]
        have hxe : x = (((l.length : Int), (nn : Int), la), [], 0, ff, (sn : Int), true) := by
          rw [hxf, ← HFIN.out, runW_end, ← hff, ← hsn, Nat.zero_add]; rfl
        have hffl : ff.length ≤ 4096 := by rw [← hff]; exact (opL_bound _ _ _).2
        have hsn8 : sn ≤ 8192 := by
          have h1 := sent_nodes HTWO.out.ta HTWO.out.tb
          have h2 := runs_len HTWO.out.ta
          omega
        have HDN : Hid (∀ m : Msg, learnE (((l.length : Int), (nn : Int), la), [], 0, ff, (sn : Int), true) m = 12) := fun m => by
          rw [← hff]
          have h0 := HTWO.out.ta.ne
          have e : fnd la lb (la.length - 1) [0] = dfs la lb (la.length - 1) 0 := difN_dfs HTWO.out.ta
          rw [e]
          obtain ⟨hs, hr⟩ := dfs_sorted la lb (la.length - 1) 0
          refine done_state HTWO.out.ca HTWO.out.ta hs (fun i hi => ?_) hsn8 m
          have := (hr i hi).2.2
          rw [List.getD_eq_getElem?_getD, List.getElem?_eq_getElem h0, Option.getD_some, (HTWO.out.ta.at_ 0 h0).1] at this
          exact this
        rw [hd1, hd2] at HRN1
        clear hff hsn hd1 hd2 hxf
        obtain ⟨hown, hwk, hmg⟩ := hlm.out
        rw [hxe] at hwk
        clear hxe hlm hli
        obtain ⟨u0, u1, u2, u3, u4, u5, u6x, u7, hrow, A5, c5, P5, pc5, F5, fc5, he, hwv⟩ := hwk
        have hwv' : WkVal wx (LS wx nw no (.slice B aw.length bc)) (((l.length : Int), (nn : Int), la), [], 0, ff, (sn : Int), true) (.agg #[u0, u1, u2, u3, u4, u5, u6x, u7]) := ⟨A5, c5, P5, pc5, F5, fc5, he, hwv⟩
        simp only [Value.agg.injEq, Array.mk.injEq, List.cons.injEq, and_true] at he
        obtain ⟨rfl, rfl, rfl, rfl, rfl, rfl, rfl, rfl⟩ := he
        obtain ⟨⟨_, _, _⟩, ⟨_, _, _⟩, ⟨ff1, ff2, ff3⟩, _⟩ := hwv
        simp only [List.length_nil] at hrow hwv' ff1 ff3
        have hpl : 0 < aw.length := List.length_pos_iff.2 hne0
        obtain ⟨_, hp1, hp2, hpS⟩ := hown.parts
        obtain ⟨b6, o6, cs6, e6, hb6S, hcs6, hrd6⟩ := hpS.at_ hpl
        obtain ⟨js, u, hun, hmae⟩ := haws _ (List.getElem_mem hpl)
        obtain ⟨ma, hma⟩ : ∃ ma, aw[0] = ma := ⟨_, rfl⟩
        rw [hma] at hrd6 hmae
        have hml : ma.2.2.2.2.2.2.1.length ≤ 100000000 := by
          rw [hmae]; show (reqL (l.length : Int) (nn : Int) (joinN u)).length ≤ _; rw [reqL_len]; omega
        obtain ⟨V6, vc6, Bd6, bc6, hcs6e, mi6⟩ := hrd6
        have hmv6 : MsgVal wx (fun g => Nw n9 wx.heap.size g ∧ ¬ False) ma (.agg #[.int .i64 ma.1, .int .i64 ma.2.1, .int .i64 ma.2.2.1, .int .i64 ma.2.2.2.1, .int .i64 ma.2.2.2.2.1, .int .i64 ma.2.2.2.2.2.1, .slice V6 ma.2.2.2.2.2.2.1.length vc6, .slice Bd6 ma.2.2.2.2.2.2.2.length bc6]) := ⟨V6, vc6, Bd6, bc6, rfl, mi6⟩
        subst e6 hcs6e
        obtain ⟨nz9, hnz⟩ : ∃ nz9, wx.heap.size = nz9 := ⟨_, rfl⟩
        have hnzs : nz9 ≤ wx.heap.size ∧ wx.heap.size ≤ nz9 := by omega
        have hbq : b6 < nz9 := by rw [← hnz]; exact hb6S.1.2
        have hnw9 : nw < nz9 := by omega
        obtain ⟨X, hX⟩ : ∃ X, learnW (((l.length : Int), (nn : Int), la), [], 0, ff, (sn : Int), true) ma = X := ⟨_, rfl⟩
        obtain ⟨M, hM⟩ : ∃ M, learnM (((l.length : Int), (nn : Int), la), [], 0, ff, (sn : Int), true) ma = M := ⟨_, rfl⟩
        have HLN0 := Lib.hid (fun W (hb : Below nz9 wx W) => learn_gen (((l.length : Int), (nn : Int), la), [], 0, ff, (sn : Int), true) ma _ _ W (hwv'.keep (fun g hg => hb.block g (by have := hg.1; omega)) (fun g hg => by have h1 := hg.1; have h2 := hb.size; show g < W.heap.size; omega)) (hmv6.keep (fun g hg => hb.block g (by have := hg.1.2; omega)) (fun g hg => by have h1 := hg.1.2; have h2 := hb.size; show g < W.heap.size; omega)) (by show la.length ≤ _; omega) (by simp) (by show ff.length ≤ _; omega) hml HTWO.out.ta.rows)
        rw [hX, hM, HDN.out] at HLN0
        have HC0 : Hid (∀ W, Below nz9 wx W → ((W.cell? ⟨nw, 0, none⟩ = some (.int .i64 (l.length : Int)) ∧ W.cell? ⟨nw, 1, none⟩ = some (.int .i64 (nn : Int)) ∧ W.cell? ⟨nw, 2, none⟩ = some (.slice A5 la.length c5) ∧ W.cell? ⟨nw, 3, none⟩ = some (.slice P5 0 pc5)) ∧ (W.cell? ⟨nw, 4, none⟩ = some (.int .i64 0) ∧ W.cell? ⟨nw, 5, none⟩ = some (.slice F5 ff.length fc5) ∧ W.cell? ⟨nw, 6, none⟩ = some (.int .i64 (sn : Int)) ∧ W.cell? ⟨nw, 7, none⟩ = some (.bool true))) ∧
            (W.cell? ⟨b6, o6, none⟩ = some (.int .i64 ma.1) ∧ W.cell? ⟨b6, o6 + 1, none⟩ = some (.int .i64 ma.2.1) ∧ W.cell? ⟨b6, o6 + 2, none⟩ = some (.int .i64 ma.2.2.1) ∧ W.cell? ⟨b6, o6 + 3, none⟩ = some (.int .i64 ma.2.2.2.1)) ∧
            (W.cell? ⟨b6, o6 + 4, none⟩ = some (.int .i64 ma.2.2.2.2.1) ∧ W.cell? ⟨b6, o6 + 5, none⟩ = some (.int .i64 ma.2.2.2.2.2.1) ∧ W.cell? ⟨b6, o6 + 6, none⟩ = some (.slice V6 ma.2.2.2.2.2.2.1.length vc6) ∧ W.cell? ⟨b6, o6 + 7, none⟩ = some (.slice Bd6 ma.2.2.2.2.2.2.2.length bc6))) := fun W hb => by
          obtain ⟨a0, a1, a2, a3, a4, a5, a6, a7, _⟩ := blk8 ((hb.block nw hnw9).trans hrow)
          have hg : ∀ i, W.cell? ⟨b6, i, none⟩ = wx.cell? ⟨b6, i, none⟩ := fun i => World.cell?_of_block (hb.block b6 hbq)
          have h8 : encMsg.size = 8 := rfl
          simp only [h8, Nat.zero_mul, Nat.add_zero] at hcs6
          exact ⟨⟨⟨a0, a1, a2, a3⟩, a4, a5, a6, a7⟩, ⟨(hg _).trans (by simpa using hcs6 0 _ rfl), (hg _).trans (hcs6 1 _ rfl), (hg _).trans (hcs6 2 _ rfl), (hg _).trans (hcs6 3 _ rfl)⟩, (hg _).trans (hcs6 4 _ rfl), (hg _).trans (hcs6 5 _ rfl), (hg _).trans (hcs6 6 _ rfl), (hg _).trans (hcs6 7 _ rfl)⟩
        have HF3 := Lib.hid ff3
        obtain ⟨⟨⟨a0, a1, a2, a3⟩, a4, a5, a6, a7⟩, _⟩ := HC0.out wx (Below.refl _ _)
        obtain ⟨⟨p0, p1, p2, _⟩, z0, z1, z2, _⟩ := And.intro (blk3 (HW.out wx hbo).1.1) (blk3 (HW.out wx hbo).1.2)
        have HRA := Lib.hid (HRN1.out wx hbo)
        clear hcs6 hX hM hwv' hmv6 mi6 hrow hown ff3 hma hmae hnz HDN
        go_upto_region 10 with (fail)
        go_cut [70] (fun e wx' => e = .bool false ∧ wx = wx')
        case first =>
          by_cases hjl : (j : Int) < (os.length : Int) + 20
          · go_wp2_with fail
            go_meet
            exact ⟨rfl, rfl⟩
          · go_wp2_with fail
            go_meet
            exact ⟨rfl, rfl⟩
        case rest =>
          obtain ⟨rfl, rfl⟩ := hcut
          go_wp2_with fail
          refine HRA.out.mono ?_
          rintro e w7 ⟨D, dc, rfl, g1, g2, g3, hb7⟩
          have hb27 : Below (n7 + 2) W2 w7 := hbo.trans (hb7.mono (by omega))
          have hb97 : Below nz9 wx w7 := hb7.mono (by omega)
          have HG3 := Lib.hid g3
          clear p0 p1 p2 z0 z1 z2 HRA g3 a0 a1 a2 a3 a4 a5 a6 a7
          go_upto_region 28 with (fail)
          obtain ⟨w0x, rfl⟩ : ∃ w0x : World, w0x = wx := ⟨_, rfl⟩
          obtain ⟨wx, rfl⟩ : ∃ wx : World, wx = w7 := ⟨_, rfl⟩
          obtain ⟨n0z, rfl⟩ : ∃ n0z, n0z = nz9 := ⟨_, rfl⟩
          obtain ⟨nz9, hnz⟩ : ∃ nz9, wx.heap.size = nz9 := ⟨_, rfl⟩
          have hnzz : n0z ≤ nz9 := by rw [← hnz]; have := hb97.size; omega
          have hnzs2 : nz9 ≤ wx.heap.size ∧ wx.heap.size ≤ nz9 := by omega
          have HLN := Lib.hid (fun W (hb : Below nz9 wx W) => HLN0.out W (hb97.trans (hb.mono hnzz)))
          have HC := Lib.hid (fun W (hb : Below nz9 wx W) => HC0.out W (hb97.trans (hb.mono hnzz)))
          have hSw : Below nz9 wx wx.drew := (Below.refl nz9 wx).drew
          have hp0 : (0 : Int) < aw.length := by omega
          clear hnz
          go_cut [24, 25, 26] (fun e f g wy => ∃ (nb : Nat) (B8 : Option Addr) (bc8 : Nat), e = .pointer (some ⟨nb, 0, none⟩) ∧ f = .slice B8 M.length bc8 ∧ g = .int .i64 12 ∧ nz9 ≤ nb ∧ Below nz9 wx wy ∧ WkIn wy (fun g => Nw nz9 wy.heap.size g ∧ g ≠ nb) nb X ∧ M.length ≤ bc8 ∧ bc8 ≤ maxLen ∧ SlAt encMsg wy (fun g => Nw nz9 wy.heap.size g ∧ g ≠ nb) B8 M)
          case first =>
            refine wp_region_U (fun W' => Below nz9 wx W') 13 (by kernel_rfl) ?_
            refine wpAnyU_takeD (i := 0) (v := ?_) rfl rfl (by kernel_rfl) (by kernel_rfl) (by kernel_rfl) (by kernel_rfl) (fun _ _ _ h => h) (by rfl) ?_ hSw ?_
            rotate_left 1
            · intro W9 hW9
              try dsimp only at hW9
              obtain ⟨⟨⟨a0, a1, a2, a3⟩, a4, a5, a6, a7⟩, ⟨b0, b1, b2, b3⟩, b4, b5, b6, b7⟩ := HC.out W9 hW9
              go_simp
              try with_reducible rfl
            try simp only [List.setIfInBounds_toArray, List.set_cons_zero, List.set_cons_succ]
            refine wpAnyU_takeD (i := 1) (v := ?_) rfl rfl (by kernel_rfl) (by kernel_rfl) (by kernel_rfl) (by kernel_rfl) (fun _ _ _ h => h) (by rfl) ?_ hSw ?_
            rotate_left 1
            · intro W9 hW9
              try dsimp only at hW9
              obtain _ := trivial
              go_simp
              try with_reducible rfl
            try simp only [List.setIfInBounds_toArray, List.set_cons_zero, List.set_cons_succ]
            refine wpAnyU_takeD (i := 2) (v := ?_) rfl rfl (by kernel_rfl) (by kernel_rfl) (by kernel_rfl) (by kernel_rfl) (fun _ _ _ h => h) (by rfl) ?_ hSw ?_
            rotate_left 1
            · intro W9 hW9
              try dsimp only at hW9
              obtain _ := trivial
              go_simp
              try with_reducible rfl
            try simp only [List.setIfInBounds_toArray, List.set_cons_zero, List.set_cons_succ]
            refine wpAnyU_takeD (i := 3) (v := ?_) rfl rfl (by kernel_rfl) (by kernel_rfl) (by kernel_rfl) (by kernel_rfl) (fun _ _ _ h => h) (by rfl) ?_ hSw ?_
            rotate_left 1
            · intro W9 hW9
              try dsimp only at hW9
              obtain ⟨⟨⟨a0, a1, a2, a3⟩, a4, a5, a6, a7⟩, ⟨b0, b1, b2, b3⟩, b4, b5, b6, b7⟩ := HC.out W9 hW9
              go_simp
              try with_reducible rfl
            try simp only [List.setIfInBounds_toArray, List.set_cons_zero, List.set_cons_succ]
            refine wpAnyU_two (i := 4) (j := 9) (by kernel_rfl) rfl rfl rfl rfl (fun K hK => ?_) (fun K hK => ?_)
            · go_wp2_with fail
              refine (HLN.out _ hSw).mono ?_
              rintro e w6 ⟨v8, B8, bc8, rfl, ⟨A7, c7, P7, pc7, F7, fc7, rfl, ⟨t1, t2, t3⟩, ⟨t4, t5, t6⟩, ⟨t7, t8, t9⟩, ti⟩, m1, m2, m3, hb6⟩
              have hS6 : Below nz9 wx w6 := hSw.trans (hb6.mono (by have := hSw.size; omega))
              refine hK.out _ _ (fun _ => hS6) ?_
              clear hK K hSw
              have hSw := hS6
              try simp only [Act.put, List.setIfInBounds_toArray, List.set_cons_zero, List.set_cons_succ]
              refine wpAnyU_takeD (i := 5) (v := ?_) rfl rfl (by kernel_rfl) (by kernel_rfl) (by kernel_rfl) (by kernel_rfl) (fun _ _ _ h => h) (by rfl) ?_ hSw ?_
              rotate_left 1
              · intro W9 hW9
                try dsimp only at hW9
                obtain _ := trivial
                go_simp
                try with_reducible rfl
              try simp only [List.setIfInBounds_toArray, List.set_cons_zero, List.set_cons_succ]
              refine wpAnyU_takeD (i := 6) (v := ?_) rfl rfl (by kernel_rfl) (by kernel_rfl) (by kernel_rfl) (by kernel_rfl) (fun _ _ _ h => h) (by rfl) ?_ hSw ?_
              rotate_left 1
              · intro W9 hW9
                try dsimp only at hW9
                obtain _ := trivial
                go_simp
                try with_reducible rfl
              try simp only [List.setIfInBounds_toArray, List.set_cons_zero, List.set_cons_succ]
              refine wpAnyU_takeD (i := 7) (v := ?_) rfl rfl (by kernel_rfl) (by kernel_rfl) (by kernel_rfl) (by kernel_rfl) (fun _ _ _ h => h) (by rfl) ?_ hSw ?_
              rotate_left 1
              · intro W9 hW9
                try dsimp only at hW9
                obtain _ := trivial
                go_simp
                try with_reducible rfl
              try simp only [List.setIfInBounds_toArray, List.set_cons_zero, List.set_cons_succ]
              refine wpAnyU_takeD (i := 8) (v := ?_) rfl rfl (by kernel_rfl) (by kernel_rfl) (by kernel_rfl) (by kernel_rfl) (fun _ _ _ h => h) (by rfl) ?_ hSw ?_
              rotate_left 1
              · intro W9 hW9
                try dsimp only at hW9
                obtain _ := trivial
                go_simp
                try with_reducible rfl
              try simp only [List.setIfInBounds_toArray, List.set_cons_zero, List.set_cons_succ]
              have hwz : wx.drew.heap.size = wx.heap.size := rfl
              have hz6 := hS6.size
              have hnbq : nz9 ≤ w6.heap.size := by omega
              have hal : ∀ o : Obj, Below nz9 wx (w6.alloc o) := fun o => hS6.alloc (by omega) o
              have HAL := Lib.hid hal
              clear hal
              refine wpAnyU_op (i := 9) (by kernel_rfl) rfl rfl (fun K hK => ?_)
              go_simp
              refine hK.out _ _ (fun _ => HAL.out _) ?_
              clear hK K
              try simp only [Act.put, List.setIfInBounds_toArray, List.set_cons_zero, List.set_cons_succ]
              have hSB := Lib.hid (HAL.out (.cells #[.int .i64 0, .int .i64 0, .slice none 0 0, .slice none 0 0, .int .i64 0, .slice none 0 0, .int .i64 0, .bool false] 27))
              have hrB : Hid ((w6.alloc (.cells #[.int .i64 0, .int .i64 0, .slice none 0 0, .slice none 0 0, .int .i64 0, .slice none 0 0, .int .i64 0, .bool false] 27)).heap[w6.heap.size]? = some (.cells #[.int .i64 0, .int .i64 0, .slice none 0 0, .slice none 0 0, .int .i64 0, .slice none 0 0, .int .i64 0, .bool false] 27 (0, 0))) := heap_alloc_new _ _
              have hkB : ∀ g, Nw wx.drew.heap.size w6.heap.size g → (w6.alloc (.cells #[.int .i64 0, .int .i64 0, .slice none 0 0, .slice none 0 0, .int .i64 0, .slice none 0 0, .int .i64 0, .bool false] 27)).heap[g]? = w6.heap[g]? := fun g hg => Below.heap_alloc _ _ _ hg.2
              have hmB : ∀ g, Nw wx.drew.heap.size w6.heap.size g → Nw nz9 (w6.alloc (.cells #[.int .i64 0, .int .i64 0, .slice none 0 0, .slice none 0 0, .int .i64 0, .slice none 0 0, .int .i64 0, .bool false] 27)).heap.size g ∧ g ≠ w6.heap.size := fun g hg => ⟨⟨by have := hg.1; omega, by have := hg.2; rw [World.size_alloc]; omega⟩, by have := hg.2; omega⟩
              change wpAnyU _ _ _ _ _ _ _ _ _ (w6.alloc (.cells #[.int .i64 0, .int .i64 0, .slice none 0 0, .slice none 0 0, .int .i64 0, .slice none 0 0, .int .i64 0, .bool false] 27))
              generalize w6.alloc (.cells #[.int .i64 0, .int .i64 0, .slice none 0 0, .slice none 0 0, .int .i64 0, .slice none 0 0, .int .i64 0, .bool false] 27) = WB at hSB hrB hkB hmB ⊢
              have hVB : Hid (WkVal WB (fun g => Nw nz9 WB.heap.size g ∧ g ≠ w6.heap.size) X (.agg #[.int .i64 X.1.1, .int .i64 X.1.2.1, .slice A7 X.1.2.2.length c7, .slice P7 X.2.1.length pc7, .int .i64 X.2.2.1, .slice F7 X.2.2.2.1.length fc7, .int .i64 X.2.2.2.2.1, .bool X.2.2.2.2.2])) :=
                ⟨A7, c7, P7, pc7, F7, fc7, rfl, ⟨t1, t2, (t3.blk hkB).more hmB⟩, ⟨t4, t5, (t6.blk hkB).more hmB⟩, ⟨t7, t8, (t9.blk hkB).more hmB⟩, ti⟩
              have hMB : Hid (SlAt encMsg WB (fun g => Nw nz9 WB.heap.size g ∧ g ≠ w6.heap.size) B8 M) := (m3.blk hkB).more hmB
              clear hkB hmB t3 t6 t9 m3 HAL hb6
              obtain ⟨z0, z1, z2, z3, z4, z5, z6, z7, zf⟩ := blk8 hrB.out
              have hS7 := set8_below hSB.out (show nz9 ≤ w6.heap.size by have := hnbq; omega) (.int .i64 X.1.1) (.int .i64 X.1.2.1) (.slice A7 X.1.2.2.length c7) (.slice P7 X.2.1.length pc7) (.int .i64 X.2.2.1) (.slice F7 X.2.2.2.1.length fc7) (.int .i64 X.2.2.2.2.1) (.bool X.2.2.2.2.2)
              have HS7 := Lib.hid hS7
              clear hS7
              refine wpAnyU_op (i := 10) (by kernel_rfl) rfl rfl (fun K hK => ?_)
              go_simp
              refine hK.out _ _ (fun _ => HS7.out) ?_
              have hS7 := HS7.out
              clear hK K z0 z1 z2 z3 z4 z5 z6 z7 zf
              have ho7 : ∀ g, (Nw nz9 WB.heap.size g ∧ g ≠ w6.heap.size) → (set8 WB w6.heap.size (.int .i64 X.1.1) (.int .i64 X.1.2.1) (.slice A7 X.1.2.2.length c7) (.slice P7 X.2.1.length pc7) (.int .i64 X.2.2.1) (.slice F7 X.2.2.2.1.length fc7) (.int .i64 X.2.2.2.2.1) (.bool X.2.2.2.2.2)).heap[g]? = WB.heap[g]? := fun g hg => set8_other hg.2 _ _ _ _ _ _ _ _
              have hr7 := set8_row hrB.out (.int .i64 X.1.1) (.int .i64 X.1.2.1) (.slice A7 X.1.2.2.length c7) (.slice P7 X.2.1.length pc7) (.int .i64 X.2.2.1) (.slice F7 X.2.2.2.1.length fc7) (.int .i64 X.2.2.2.2.1) (.bool X.2.2.2.2.2)
              have hz7 : (set8 WB w6.heap.size (.int .i64 X.1.1) (.int .i64 X.1.2.1) (.slice A7 X.1.2.2.length c7) (.slice P7 X.2.1.length pc7) (.int .i64 X.2.2.1) (.slice F7 X.2.2.2.1.length fc7) (.int .i64 X.2.2.2.2.1) (.bool X.2.2.2.2.2)).heap.size = WB.heap.size := set8_sz
              have hxx7 : Hid (WkIn (set8 WB w6.heap.size (.int .i64 X.1.1) (.int .i64 X.1.2.1) (.slice A7 X.1.2.2.length c7) (.slice P7 X.2.1.length pc7) (.int .i64 X.2.2.1) (.slice F7 X.2.2.2.1.length fc7) (.int .i64 X.2.2.2.2.1) (.bool X.2.2.2.2.2)) (fun g => Nw nz9 (set8 WB w6.heap.size (.int .i64 X.1.1) (.int .i64 X.1.2.1) (.slice A7 X.1.2.2.length c7) (.slice P7 X.2.1.length pc7) (.int .i64 X.2.2.1) (.slice F7 X.2.2.2.1.length fc7) (.int .i64 X.2.2.2.2.1) (.bool X.2.2.2.2.2)).heap.size g ∧ g ≠ w6.heap.size) w6.heap.size X) := by
                rw [Hid, hz7]
                exact ⟨_, _, _, _, _, _, _, _, hr7, hVB.out.keep ho7 (fun g h => h)⟩
              have hms7 : Hid (SlAt encMsg (set8 WB w6.heap.size (.int .i64 X.1.1) (.int .i64 X.1.2.1) (.slice A7 X.1.2.2.length c7) (.slice P7 X.2.1.length pc7) (.int .i64 X.2.2.1) (.slice F7 X.2.2.2.1.length fc7) (.int .i64 X.2.2.2.2.1) (.bool X.2.2.2.2.2)) (fun g => Nw nz9 (set8 WB w6.heap.size (.int .i64 X.1.1) (.int .i64 X.1.2.1) (.slice A7 X.1.2.2.length c7) (.slice P7 X.2.1.length pc7) (.int .i64 X.2.2.1) (.slice F7 X.2.2.2.1.length fc7) (.int .i64 X.2.2.2.2.1) (.bool X.2.2.2.2.2)).heap.size g ∧ g ≠ w6.heap.size) B8 M) := by
                rw [Hid, hz7]
                exact hMB.out.blk ho7
              change wpAnyU _ _ _ _ _ _ _ _ _ (set8 WB w6.heap.size (.int .i64 X.1.1) (.int .i64 X.1.2.1) (.slice A7 X.1.2.2.length c7) (.slice P7 X.2.1.length pc7) (.int .i64 X.2.2.1) (.slice F7 X.2.2.2.1.length fc7) (.int .i64 X.2.2.2.2.1) (.bool X.2.2.2.2.2))
              clear ho7 hr7 hz7 hVB hMB
              generalize set8 WB w6.heap.size (.int .i64 X.1.1) (.int .i64 X.1.2.1) (.slice A7 X.1.2.2.length c7) (.slice P7 X.2.1.length pc7) (.int .i64 X.2.2.1) (.slice F7 X.2.2.2.1.length fc7) (.int .i64 X.2.2.2.2.1) (.bool X.2.2.2.2.2) = W7 at hS7 hxx7 hms7 ⊢
              clear HS7
              try simp only [Act.put, List.setIfInBounds_toArray, List.set_cons_zero, List.set_cons_succ]
              refine wpAnyU_op (i := 11) (by kernel_rfl) rfl rfl (fun K hK => ?_)
              go_simp
              refine hK.out _ _ (fun _ => hS7) ?_
              clear hK K
              try simp only [Act.put, List.setIfInBounds_toArray, List.set_cons_zero, List.set_cons_succ]
              refine wpAnyU_op (i := 12) (by kernel_rfl) rfl rfl (fun K hK => ?_)
              go_simp
              refine hK.out _ _ (fun _ => hS7) ?_
              clear hK K
              try simp only [Act.put, List.setIfInBounds_toArray, List.set_cons_zero, List.set_cons_succ]
              refine wpAnyU_done (by kernel_rfl) ?_ _
              go_wp2
              go_meet
              exact ⟨w6.heap.size, B8, bc8, rfl, rfl, rfl, hnbq, hS7, hxx7.out, ⟨m1, m2, hms7.out⟩⟩
            · have hal : ∀ o : Obj, Below nz9 wx (wx.drew.alloc o) := fun o => hSw.alloc (by have := hSw.size; omega) o
              have HAL := Lib.hid hal
              clear hal
              go_simp
              refine hK.out _ _ (fun _ => HAL.out _) ?_
              clear hK K hSw
              try simp only [Act.put, List.setIfInBounds_toArray, List.set_cons_zero, List.set_cons_succ]
              have hSw := HAL.out (.cells #[.int .i64 0, .int .i64 0, .slice none 0 0, .slice none 0 0, .int .i64 0, .slice none 0 0, .int .i64 0, .bool false] 27)
              have hrA : (wx.drew.alloc (.cells #[.int .i64 0, .int .i64 0, .slice none 0 0, .slice none 0 0, .int .i64 0, .slice none 0 0, .int .i64 0, .bool false] 27)).heap[wx.heap.size]? = some (.cells #[.int .i64 0, .int .i64 0, .slice none 0 0, .slice none 0 0, .int .i64 0, .slice none 0 0, .int .i64 0, .bool false] 27 (0, 0)) := heap_alloc_new wx.drew _
              change wpAnyU _ _ _ _ _ _ _ _ _ (wx.drew.alloc (.cells #[.int .i64 0, .int .i64 0, .slice none 0 0, .slice none 0 0, .int .i64 0, .slice none 0 0, .int .i64 0, .bool false] 27))
              generalize wx.drew.alloc (.cells #[.int .i64 0, .int .i64 0, .slice none 0 0, .slice none 0 0, .int .i64 0, .slice none 0 0, .int .i64 0, .bool false] 27) = WA at hSw hrA ⊢
              have hlA : wx.heap.size < WA.heap.size := (Array.getElem?_eq_some_iff.1 hrA).1
              refine wpAnyU_op (i := 4) (by kernel_rfl) rfl rfl (fun K hK => ?_)
              go_wp2_with fail
              refine (HLN.out _ hSw).mono ?_
              rintro e WB ⟨v8, B8, bc8, rfl, ⟨A7, c7, P7, pc7, F7, fc7, rfl, ⟨t1, t2, t3⟩, ⟨t4, t5, t6⟩, ⟨t7, t8, t9⟩, ti⟩, m1, m2, m3, hb6⟩
              have hS6 : Below nz9 wx WB := hSw.trans (hb6.mono (by have := hSw.size; omega))
              refine hK.out _ _ (fun _ => hS6) ?_
              clear hK K hSw HAL
              have hSw := hS6
              try simp only [Act.put, List.setIfInBounds_toArray, List.set_cons_zero, List.set_cons_succ]
              refine wpAnyU_takeD (i := 5) (v := ?_) rfl rfl (by kernel_rfl) (by kernel_rfl) (by kernel_rfl) (by kernel_rfl) (fun _ _ _ h => h) (by rfl) ?_ hSw ?_
              rotate_left 1
              · intro W9 hW9
                try dsimp only at hW9
                obtain _ := trivial
                go_simp
                try with_reducible rfl
              try simp only [List.setIfInBounds_toArray, List.set_cons_zero, List.set_cons_succ]
              refine wpAnyU_takeD (i := 6) (v := ?_) rfl rfl (by kernel_rfl) (by kernel_rfl) (by kernel_rfl) (by kernel_rfl) (fun _ _ _ h => h) (by rfl) ?_ hSw ?_
              rotate_left 1
              · intro W9 hW9
                try dsimp only at hW9
                obtain _ := trivial
                go_simp
                try with_reducible rfl
              try simp only [List.setIfInBounds_toArray, List.set_cons_zero, List.set_cons_succ]
              refine wpAnyU_takeD (i := 7) (v := ?_) rfl rfl (by kernel_rfl) (by kernel_rfl) (by kernel_rfl) (by kernel_rfl) (fun _ _ _ h => h) (by rfl) ?_ hSw ?_
              rotate_left 1
              · intro W9 hW9
                try dsimp only at hW9
                obtain _ := trivial
                go_simp
                try with_reducible rfl
              try simp only [List.setIfInBounds_toArray, List.set_cons_zero, List.set_cons_succ]
              refine wpAnyU_takeD (i := 8) (v := ?_) rfl rfl (by kernel_rfl) (by kernel_rfl) (by kernel_rfl) (by kernel_rfl) (fun _ _ _ h => h) (by rfl) ?_ hSw ?_
              rotate_left 1
              · intro W9 hW9
                try dsimp only at hW9
                obtain _ := trivial
                go_simp
                try with_reducible rfl
              try simp only [List.setIfInBounds_toArray, List.set_cons_zero, List.set_cons_succ]
              have hnbq : nz9 ≤ wx.heap.size := by omega
              have hSB := Lib.hid hS6
              have hrB := Lib.hid ((hb6.block _ hlA).trans hrA)
              have hmB : ∀ g, Nw WA.heap.size WB.heap.size g → Nw nz9 WB.heap.size g ∧ g ≠ wx.heap.size := fun g hg => ⟨⟨by have := hg.1; omega, hg.2⟩, by have := hg.1; omega⟩
              have hVB : Hid (WkVal WB (fun g => Nw nz9 WB.heap.size g ∧ g ≠ wx.heap.size) X (.agg #[.int .i64 X.1.1, .int .i64 X.1.2.1, .slice A7 X.1.2.2.length c7, .slice P7 X.2.1.length pc7, .int .i64 X.2.2.1, .slice F7 X.2.2.2.1.length fc7, .int .i64 X.2.2.2.2.1, .bool X.2.2.2.2.2])) :=
                ⟨A7, c7, P7, pc7, F7, fc7, rfl, ⟨t1, t2, t3.more hmB⟩, ⟨t4, t5, t6.more hmB⟩, ⟨t7, t8, t9.more hmB⟩, ti⟩
              have hMB : Hid (SlAt encMsg WB (fun g => Nw nz9 WB.heap.size g ∧ g ≠ wx.heap.size) B8 M) := m3.more hmB
              clear hmB t3 t6 t9 m3 hrA
              obtain ⟨z0, z1, z2, z3, z4, z5, z6, z7, zf⟩ := blk8 hrB.out
              have hS7 := set8_below hSB.out (show nz9 ≤ wx.heap.size by have := hnbq; omega) (.int .i64 X.1.1) (.int .i64 X.1.2.1) (.slice A7 X.1.2.2.length c7) (.slice P7 X.2.1.length pc7) (.int .i64 X.2.2.1) (.slice F7 X.2.2.2.1.length fc7) (.int .i64 X.2.2.2.2.1) (.bool X.2.2.2.2.2)
              have HS7 := Lib.hid hS7
              clear hS7
              refine wpAnyU_op (i := 10) (by kernel_rfl) rfl rfl (fun K hK => ?_)
              go_simp
              refine hK.out _ _ (fun _ => HS7.out) ?_
              have hS7 := HS7.out
              clear hK K z0 z1 z2 z3 z4 z5 z6 z7 zf
              have ho7 : ∀ g, (Nw nz9 WB.heap.size g ∧ g ≠ wx.heap.size) → (set8 WB wx.heap.size (.int .i64 X.1.1) (.int .i64 X.1.2.1) (.slice A7 X.1.2.2.length c7) (.slice P7 X.2.1.length pc7) (.int .i64 X.2.2.1) (.slice F7 X.2.2.2.1.length fc7) (.int .i64 X.2.2.2.2.1) (.bool X.2.2.2.2.2)).heap[g]? = WB.heap[g]? := fun g hg => set8_other hg.2 _ _ _ _ _ _ _ _
              have hr7 := set8_row hrB.out (.int .i64 X.1.1) (.int .i64 X.1.2.1) (.slice A7 X.1.2.2.length c7) (.slice P7 X.2.1.length pc7) (.int .i64 X.2.2.1) (.slice F7 X.2.2.2.1.length fc7) (.int .i64 X.2.2.2.2.1) (.bool X.2.2.2.2.2)
              have hz7 : (set8 WB wx.heap.size (.int .i64 X.1.1) (.int .i64 X.1.2.1) (.slice A7 X.1.2.2.length c7) (.slice P7 X.2.1.length pc7) (.int .i64 X.2.2.1) (.slice F7 X.2.2.2.1.length fc7) (.int .i64 X.2.2.2.2.1) (.bool X.2.2.2.2.2)).heap.size = WB.heap.size := set8_sz
              have hxx7 : Hid (WkIn (set8 WB wx.heap.size (.int .i64 X.1.1) (.int .i64 X.1.2.1) (.slice A7 X.1.2.2.length c7) (.slice P7 X.2.1.length pc7) (.int .i64 X.2.2.1) (.slice F7 X.2.2.2.1.length fc7) (.int .i64 X.2.2.2.2.1) (.bool X.2.2.2.2.2)) (fun g => Nw nz9 (set8 WB wx.heap.size (.int .i64 X.1.1) (.int .i64 X.1.2.1) (.slice A7 X.1.2.2.length c7) (.slice P7 X.2.1.length pc7) (.int .i64 X.2.2.1) (.slice F7 X.2.2.2.1.length fc7) (.int .i64 X.2.2.2.2.1) (.bool X.2.2.2.2.2)).heap.size g ∧ g ≠ wx.heap.size) wx.heap.size X) := by
                rw [Hid, hz7]
                exact ⟨_, _, _, _, _, _, _, _, hr7, hVB.out.keep ho7 (fun g h => h)⟩
              have hms7 : Hid (SlAt encMsg (set8 WB wx.heap.size (.int .i64 X.1.1) (.int .i64 X.1.2.1) (.slice A7 X.1.2.2.length c7) (.slice P7 X.2.1.length pc7) (.int .i64 X.2.2.1) (.slice F7 X.2.2.2.1.length fc7) (.int .i64 X.2.2.2.2.1) (.bool X.2.2.2.2.2)) (fun g => Nw nz9 (set8 WB wx.heap.size (.int .i64 X.1.1) (.int .i64 X.1.2.1) (.slice A7 X.1.2.2.length c7) (.slice P7 X.2.1.length pc7) (.int .i64 X.2.2.1) (.slice F7 X.2.2.2.1.length fc7) (.int .i64 X.2.2.2.2.1) (.bool X.2.2.2.2.2)).heap.size g ∧ g ≠ wx.heap.size) B8 M) := by
                rw [Hid, hz7]
                exact hMB.out.blk ho7
              change wpAnyU _ _ _ _ _ _ _ _ _ (set8 WB wx.heap.size (.int .i64 X.1.1) (.int .i64 X.1.2.1) (.slice A7 X.1.2.2.length c7) (.slice P7 X.2.1.length pc7) (.int .i64 X.2.2.1) (.slice F7 X.2.2.2.1.length fc7) (.int .i64 X.2.2.2.2.1) (.bool X.2.2.2.2.2))
              clear ho7 hr7 hz7 hVB hMB
              generalize set8 WB wx.heap.size (.int .i64 X.1.1) (.int .i64 X.1.2.1) (.slice A7 X.1.2.2.length c7) (.slice P7 X.2.1.length pc7) (.int .i64 X.2.2.1) (.slice F7 X.2.2.2.1.length fc7) (.int .i64 X.2.2.2.2.1) (.bool X.2.2.2.2.2) = W7 at hS7 hxx7 hms7 ⊢
              clear HS7
              try simp only [Act.put, List.setIfInBounds_toArray, List.set_cons_zero, List.set_cons_succ]
              refine wpAnyU_op (i := 11) (by kernel_rfl) rfl rfl (fun K hK => ?_)
              go_simp
              refine hK.out _ _ (fun _ => hS7) ?_
              clear hK K
              try simp only [Act.put, List.setIfInBounds_toArray, List.set_cons_zero, List.set_cons_succ]
              refine wpAnyU_op (i := 12) (by kernel_rfl) rfl rfl (fun K hK => ?_)
              go_simp
              refine hK.out _ _ (fun _ => hS7) ?_
              clear hK K
              try simp only [Act.put, List.setIfInBounds_toArray, List.set_cons_zero, List.set_cons_succ]
              refine wpAnyU_done (by kernel_rfl) ?_ _
              go_wp2
              go_meet
              exact ⟨wx.heap.size, B8, bc8, rfl, rfl, rfl, hnbq, hS7, hxx7.out, ⟨m1, m2, hms7.out⟩⟩
          case rest =>
            obtain ⟨nb, B8, bc8, rfl, rfl, rfl, hnbq, hbxy, _, _, _, _⟩ := hcut
            obtain ⟨wy, rfl⟩ : ∃ wy : World, wy = wc := ⟨_, rfl⟩
            have hb2y : Below (n7 + 2) W2 wy := hb27.trans (hbxy.mono (by have := hb27.size; omega))
            obtain ⟨⟨⟨a0, a1, a2, a3⟩, a4, a5, a6, a7⟩, _⟩ := HC.out wy hbxy
            have HEX := Lib.hid (eqExts_any F5 D fc5 dc ff.length ff.length _ _ ff ff true wy rfl rfl (by simp) (HF3.out.blk (fun g hg => (hbxy.block g (by have := hg.1; omega)).trans (hb97.block g (by have := hg.1; omega)))) (HG3.out.blk (fun g hg => hbxy.block g (by have : g < wx.heap.size := hg; omega))) (by omega) (by omega))
            have hss : ((sn : Int) == (sn : Int)) = true := by simp
            go_wp2_with fail
            refine HEX.out.mono ?_
            rintro e w9 ⟨rfl, hd9⟩
            have hb29 : Below (n7 + 2) W2 w9 := hb2y.trans (hd9.below _)
            have hb79 : Below nz9 wx w9 := hbxy.trans (hd9.below _)
            clear a0 a1 a2 a3 a4 a5 a6 a7
            obtain ⟨⟨⟨a0, a1, a2, a3⟩, a4, a5, a6, a7⟩, _⟩ := HC.out w9 hb79
            go_wp2_with fail
            refine (awake44_any w9).mono ?_
            rintro e wz ⟨rfl, hbz⟩
            go_wp2_with fail
            go_ret
            exact ⟨by first | trivial | rfl | simp, ((HW.out w9 hb29).2.2.2).trans (hbz.mono (((HW.out w9 hb29).2.2.2)).size)⟩
end Go.Proofs.Ytjehedfdikdfpaa
