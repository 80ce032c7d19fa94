/-
  The law CompareFinds: the walk.
-/
import Derived.WalkKit
import Derived.WalkSpells
import Derived.WalkLawsBesides
import Derived.Lib.Hide
import Derived.Deep.QuietTactic
import Derived.BigQuiet
import Derived.StillTailTactics
import Derived.Deep.RegionHeld3
import Derived.Maps.AppendAt
import Derived.Deep.AppendLies
import Derived.IntWalk
import Derived.Laws.Closers25b
import Derived.RegionTactic
import Derived.BigRegion
import Derived.Deep.RegionLaw
import Derived.Deep.Cut
import Derived.Test.YtjehedfdikdfpaaProg
import Derived.ChangeKeysEq
import Derived.RangeFuncNested
import Derived.RangeFuncBound
import Derived.RangeFuncCalls
import Derived.RangeFuncLeaves
import Derived.RangeFuncBox
import Derived.Shelf.Abstract
import Derived.Shelf.RegionOpen
import Derived.OwnWalkIn
import Derived.TacticsInMore
import Derived.LoopNIn
import Derived.LoopIn
import Derived.Laws.IdiomCopy
import Derived.Lib.SliceRun
import Derived.Lib.AppendZerosOnto
import Derived.Laws.CopyOwn
import Derived.Laws.MakeOwn
import Derived.Deep.OwnRows
import Derived.Maps.RangeWalk
import Derived.Shelf.SlGeneric
import Derived.Shelf.SlSortCmp.NoneTotal
import Derived.Ground.SlsfProg
import Derived.OpenShut
import Derived.Carry
import Derived.ProofKit
import Derived.ChangeSame
import GoSem.Claim
import GoSem.ClaimJoined
import GoSem.ClaimMapViews
import Derived.JoinedTies
import Derived.KernelRfl
import Derived.Deep.DeepCutAuto
import Derived.Sort.QuietIn
import Derived.OrdersHeld
import Derived.WalkMore
import Derived.OrdersIn
import Derived.Deep.RegionHeld
import Derived.Sort.CutIn
import Derived.Test.YtjehedfdikdfpaaZ01
import Derived.Test.YtjehedfdikdfpaaZ02
import Derived.Test.YtjehedfdikdfpaaZ03
import Derived.Test.YtjehedfdikdfpaaZ04
import Derived.Test.YtjehedfdikdfpaaZ05
import Derived.Test.YtjehedfdikdfpaaZ06
import Derived.Test.YtjehedfdikdfpaaZ07
import Derived.Test.YtjehedfdikdfpaaZ08
import Derived.Test.YtjehedfdikdfpaaZ09
import Derived.Test.YtjehedfdikdfpaaZ10
import Derived.Test.YtjehedfdikdfpaaZ11
import Derived.Test.YtjehedfdikdfpaaZ12
import Derived.Test.YtjehedfdikdfpaaZ21
import Derived.Test.YtjehedfdikdfpaaZF01
set_option linter.unusedVariables false
set_option linter.unusedSimpArgs false
set_option linter.unusedSectionVars false
set_option linter.unnecessarySimpa false
namespace Go.Proofs.Ytjehedfdikdfpaa
open Go.RowKit Go.Shelf
attribute [local go_sem] Oper.semAt_some

theorem root_at {N n : Nat} {l : List (List Int)} (hc : checkT ((N : Int), (n : Int), l) = 0) (tk : TOk N n l) : rootT ((N : Int), (n : Int), l) = (l.getD (l.length - 1) []).getD 0 0 := by
  unfold rootT
  rw [if_neg (by rw [hc]; simp)]
  simp only
  have h0 := tk.ne
  have e1 : l.getLastD [] = l.getD (l.length - 1) [] := by
    rw [List.getD_eq_getElem?_getD, List.getLastD_eq_getLast?, List.getLast?_eq_getElem?]
  rw [e1]
  cases l.getD (l.length - 1) [] with
  | nil => rfl
  | cons x t => rfl
set_option maxHeartbeats 8000000 in
set_option maxRecDepth 100000 in
theorem finds44_any (A A2 : Option Addr) (c c2 : Nat) (l m : List Sec) (leaf : Int) (w : World) (h1 : SlAt encSec w (Bl w.heap.size) A l) (h2 : SlAt encSec w (Bl w.heap.size) A2 m) (hc : l.length ≤ c ∧ c ≤ maxLen) (hc2 : m.length ≤ c2 ∧ c2 ≤ maxLen) (hlf : 0 ≤ leaf ∧ leaf < 256) :
    Calls Try.prog 10 #[.slice A l.length c, .slice A2 m.length c2, .int .u8 leaf] w (LawRet w) := by
  obtain ⟨n0, hn0⟩ : ∃ n0, w.heap.size = n0 := ⟨_, rfl⟩
  have HTR := Lib.hid (trees44_any A A2 c c2 l.length m.length l m leaf w rfl rfl h1 h2 hc hc2 hlf)
  have HLR := Lib.hid (leafN_range hlf)
  clear h1 h2 hc hc2
  go_enter Try.func10, Try.ntmps10
  go_wp2_with fail
  refine HTR.out.mono ?_
  rintro e w1 ⟨t1, t2, B1, B2, b1, b2, rfl, ⟨x1, x2⟩, ⟨y1, y2⟩, x3, y3, hb1, htt⟩
  clear HTR
  obtain ⟨n7, hn7⟩ : ∃ n7, w1.heap.size = n7 := ⟨_, rfl⟩
  obtain ⟨W2, hW2⟩ : ∃ W2, (w1.alloc (.cells #[.int .i64 t1.1, .int .i64 t1.2.1, .slice B1 t1.2.2.length b1] 24)).alloc (.cells #[.int .i64 t2.1, .int .i64 t2.2.1, .slice B2 t2.2.2.length b2] 24) = W2 := ⟨_, rfl⟩
  have hz2 : W2.heap.size = n7 + 2 := by rw [← hW2, ← hn7]; simp
  have hb2 : Below n7 w1 W2 := by rw [← hW2, ← hn7]; exact ext_alloc (ext_alloc (Below.refl _ _))
  have hr7 : W2.heap[n7]? = some (.cells #[.int .i64 t1.1, .int .i64 t1.2.1, .slice B1 t1.2.2.length b1] 24 (0, 0)) := by
    rw [← hW2, ← hn7]; exact (Below.heap_alloc _ _ _ (by simp)).trans (heap_alloc_new _ _)
  have hr8 : W2.heap[n7 + 1]? = some (.cells #[.int .i64 t2.1, .int .i64 t2.2.1, .slice B2 t2.2.2.length b2] 24 (0, 0)) := by
    rw [← hW2, ← hn7]; exact heap_new2 _ _ _
  have hbw2 : Below n0 w W2 := by rw [hn0] at hb1; exact hb1.trans (hb2.mono (by have := hb1.size; omega))
  have HN0 := Lib.hid hn0
  go_upto_region 2 with (fail)
  obtain ⟨ok, hok⟩ : ∃ ok, treesB l m = ok := ⟨_, rfl⟩
  rw [hok] at htt ⊢
  have HOK := Lib.hid hok
  have HN7 := Lib.hid hn7
  clear hW2 hok hn7
  cases ok with
  | false =>
    go_wp2_with fail
    have hbf : Below w.heap.size w W2 := by rw [HN0.out]; exact hbw2
    refine (awake44_any W2).mono ?_
    rintro e wz ⟨rfl, hbz⟩
    go_wp2_with fail
    go_ret
    exact ⟨by first | trivial | rfl | simp, hbf.trans (hbz.mono (hbf).size)⟩
  | true =>
    obtain ⟨q1, q2⟩ := htt rfl
    obtain ⟨la, lb, e1, e2, two, h100, hpos⟩ := trees_two HLR.out HOK.out
    have q1' := q1.trans e1
    have q2' := q2.trans e2
    subst q1' q2'
    obtain ⟨nn, hnn⟩ : ∃ nn, leafN leaf = nn := ⟨_, rfl⟩
    clear q1 q2 e1 e2 htt
    rw [hnn] at two hr7 hr8 ⊢
    simp only at x1 x3 hr7 y1 y3 hr8 ⊢
    have HTWO := Lib.hid two
    have hnn12 : 1 ≤ nn ∧ nn ≤ 12 := by rw [← hnn]; exact HLR.out
    have HW : Hid (∀ W, Below (n7 + 2) W2 W → (W.heap[n7]? = some (.cells #[.int .i64 (l.length : Int), .int .i64 (nn : Int), .slice B1 la.length b1] 24 (0, 0)) ∧ W.heap[n7 + 1]? = some (.cells #[.int .i64 (l.length : Int), .int .i64 (nn : Int), .slice B2 lb.length b2] 24 (0, 0))) ∧ SlAt (encSl encU64) W (Bl W.heap.size) B1 la ∧ SlAt (encSl encU64) W (Bl W.heap.size) B2 lb ∧ Below w.heap.size w W) := fun W hb => by
      have hz := hb.size
      have hz1 := hb2.size
      have hn7e := HN7.out
      exact ⟨⟨(hb.block n7 (by omega)).trans hr7, (hb.block (n7 + 1) (by omega)).trans hr8⟩, (x3.blk (fun g hg => (hb.block g (by have := hg.2; omega)).trans (hb2.block g (by have := hg.2; omega)))).more (fun g hg => by have := hg.2; show g < W.heap.size; omega), (y3.blk (fun g hg => (hb.block g (by have := hg.2; omega)).trans (hb2.block g (by have := hg.2; omega)))).more (fun g hg => by have := hg.2; show g < W.heap.size; omega), by rw [HN0.out]; exact hbw2.trans (hb.mono (by have := hbw2.size; omega))⟩
    have hIN : I64 (l.length : Int) ∧ I64 (nn : Int) := ⟨by unfold I64; omega, by unfold I64; omega⟩
    have hlla : la.length ≤ 13 := HTWO.out.ta.len
    have hllb : lb.length ≤ 13 := HTWO.out.tb.len
    have hne := HTWO.out.ta.ne
    have HRN1 := Lib.hid (fun W (hb : Below (n7 + 2) W2 W) => run_any (l.length : Int) (nn : Int) (l.length : Int) (nn : Int) B1 B2 b1 b2 la.length lb.length la lb W rfl rfl (HW.out W hb).2.1 (HW.out W hb).2.2.1 (by omega) (by omega) ⟨x1, x2⟩ ⟨y1, y2⟩ hIN hIN HTWO.out.ta.rows)
    have HRN2 := Lib.hid (fun W (hb : Below (n7 + 2) W2 W) => differ_any (l.length : Int) (nn : Int) (l.length : Int) (nn : Int) B1 B2 b1 b2 la.length lb.length la lb W rfl rfl (HW.out W hb).2.1 (HW.out W hb).2.2.1 (by omega) (by omega) ⟨x1, x2⟩ ⟨y1, y2⟩ hIN hIN)
    rw [HTWO.out.err] at HRN1 HRN2
    have hs1 : Hid ((sentT ((l.length : Int), (nn : Int), la) ((l.length : Int), (nn : Int), lb) == 1) = ((rootT ((l.length : Int), (nn : Int), la) == rootT ((l.length : Int), (nn : Int), lb)) || ((la.length : Int) == 1))) := by
      have h := finds_one (l' := lb) HTWO.out.ta
      have hll : lb.length = la.length := ((Two.of HTWO.out.ta HTWO.out.tb).len).symm
      have hr2 := root_at HTWO.out.cb HTWO.out.tb
      rw [hll] at hr2
      rw [Hid, root_at HTWO.out.ca HTWO.out.ta, hr2, Bool.eq_iff_iff]
      unfold sentT
      rw [if_pos HTWO.out.err]
      simp only [beq_iff_eq, Bool.or_eq_true]
      constructor
      · intro e
        rcases h.1 (by omega) with h | h
        · exact Or.inl h
        · exact Or.inr (by omega)
      · intro e
        have := h.2 (by rcases e with e | e; exact Or.inl e; exact Or.inr (by omega))
        omega
    obtain ⟨ra, hra⟩ : ∃ ra, rootT ((l.length : Int), (nn : Int), la) = ra := ⟨_, rfl⟩
    obtain ⟨rb, hrb⟩ : ∃ rb, rootT ((l.length : Int), (nn : Int), lb) = rb := ⟨_, rfl⟩
    have HRA1 := Lib.hid (fun W (hb : Below (n7 + 2) W2 W) => root_any (l.length : Int) (nn : Int) B1 b1 la.length la ra W rfl hra (HW.out W hb).2.1 (by omega) ⟨x1, x2⟩ hIN)
    have HRB1 := Lib.hid (fun W (hb : Below (n7 + 2) W2 W) => root_any (l.length : Int) (nn : Int) B2 b2 lb.length lb rb W rfl hrb (HW.out W hb).2.2.1 (by omega) ⟨y1, y2⟩ hIN)
    obtain ⟨X, hX⟩ : ∃ X, difT ((l.length : Int), (nn : Int), la) ((l.length : Int), (nn : Int), lb) = X := ⟨_, rfl⟩
    obtain ⟨sn, hsn⟩ : ∃ sn, sentT ((l.length : Int), (nn : Int), la) ((l.length : Int), (nn : Int), lb) = sn := ⟨_, rfl⟩
    rw [hX, hsn] at HRN1
    rw [hX] at HRN2
    rw [hsn, hra, hrb] at hs1
    clear hra hrb hX hsn x3 y3 hb2 hbw2 hr7 hr8 hb1
    have hB2 := Below.refl (n7 + 2) W2
    obtain ⟨⟨p0, p1, p2, _⟩, z0, z1, z2, _⟩ := And.intro (blk3 (HW.out W2 hB2).1.1) (blk3 (HW.out W2 hB2).1.2)
    have HRA := Lib.hid (HRN1.out W2 hB2)
    go_wp2_with fail
    refine HRA.out.mono ?_
    rintro e w3 ⟨D, dc, rfl, g1, g2, g3, hb3⟩
    have hb23 : Below (n7 + 2) W2 w3 := hb3.mono (by omega)
    clear p0 p1 p2 z0 z1 z2 HRA HRN1
    have HD3 := Lib.hid g3
    obtain ⟨⟨p0, p1, p2, _⟩, z0, z1, z2, _⟩ := And.intro (blk3 (HW.out w3 hb23).1.1) (blk3 (HW.out w3 hb23).1.2)
    have HRA := Lib.hid (HRN2.out w3 hb23)
    clear g3
    go_wp2_with fail
    refine HRA.out.mono ?_
    rintro e w4 ⟨D4, dc4, rfl, g4, g5, g6, hb4⟩
    have hz23 := hb23.size
    have hb24 : Below (n7 + 2) W2 w4 := hb23.trans (hb4.mono (by omega))
    clear p0 p1 p2 z0 z1 z2 HRA HRN2
    have HEX := Lib.hid (eqExts_any D D4 dc dc4 X.length X.length (Bl w3.heap.size) (Bl w4.heap.size) X X true w4 rfl rfl (by simp) (HD3.out.blk (fun g hg => hb4.block g hg)) (g6.more (fun g hg => hg.2)) (by unfold maxLen at g2; omega) (by unfold maxLen at g2; omega))
    clear g6 hb4
    go_wp2_with fail
    refine HEX.out.mono ?_
    rintro e w5 ⟨rfl, hd5⟩
    have hb25 : Below (n7 + 2) W2 w5 := hb24.trans (hd5.below _)
    clear HEX hd5
    have HC : Hid (∀ W, Below (n7 + 2) W2 W → ((W.cell? ⟨n7, 0, none⟩ = some (.int .i64 (l.length : Int)) ∧ W.cell? ⟨n7, 1, none⟩ = some (.int .i64 (nn : Int)) ∧ W.cell? ⟨n7, 2, none⟩ = some (.slice B1 la.length b1)) ∧ W.cell? ⟨n7 + 1, 0, none⟩ = some (.int .i64 (l.length : Int)) ∧ W.cell? ⟨n7 + 1, 1, none⟩ = some (.int .i64 (nn : Int)) ∧ W.cell? ⟨n7 + 1, 2, none⟩ = some (.slice B2 lb.length b2))) := fun W hb => by
      obtain ⟨p0, p1, p2, _⟩ := blk3 (HW.out W hb).1.1
      obtain ⟨z0, z1, z2, _⟩ := blk3 (HW.out W hb).1.2
      exact ⟨⟨p0, p1, p2⟩, z0, z1, z2⟩
    have hSw : Below (n7 + 2) W2 w5.drew := hb25.drew
    have hsx := hs1.out
    go_upto_region 8 with (fail)
    obtain ⟨qr, hqr⟩ : ∃ qr, (ra == rb) = qr := ⟨_, rfl⟩
    rw [hqr] at hsx
    clear hb24 hb25
    cases qr with
    | true =>
      rw [Bool.true_or] at hsx
      refine wp_region_U (fun W' => Below (n7 + 2) W2 W') 18 (by kernel_rfl) ?_
      refine wpAnyU_takeD (i := 0) (v := ?_) rfl rfl (by kernel_rfl) (by kernel_rfl) (by kernel_rfl) (by kernel_rfl) (fun _ _ _ h => h) (by rfl) ?_ hSw ?_
      rotate_left 1
      · intro W9 hW9
        try dsimp only at hW9
        obtain _ := True.intro
        go_simp
        try with_reducible rfl
      try simp only [List.setIfInBounds_toArray, List.set_cons_zero, List.set_cons_succ]
      refine wpAnyU_takeD (i := 1) (v := ?_) rfl rfl (by kernel_rfl) (by kernel_rfl) (by kernel_rfl) (by kernel_rfl) (fun _ _ _ h => h) (by rfl) ?_ hSw ?_
      rotate_left 1
      · intro W9 hW9
        try dsimp only at hW9
        obtain _ := True.intro
        go_simp
        try with_reducible rfl
      try simp only [List.setIfInBounds_toArray, List.set_cons_zero, List.set_cons_succ]
      refine wpAnyU_takeD (i := 2) (v := ?_) rfl rfl (by kernel_rfl) (by kernel_rfl) (by kernel_rfl) (by kernel_rfl) (fun _ _ _ h => h) (by rfl) ?_ hSw ?_
      rotate_left 1
      · intro W9 hW9
        try dsimp only at hW9
        obtain ⟨⟨p0, p1, p2⟩, z0, z1, z2⟩ := HC.out W9 hW9
        go_simp
        try with_reducible rfl
      try simp only [List.setIfInBounds_toArray, List.set_cons_zero, List.set_cons_succ]
      refine wpAnyU_takeD (i := 4) (v := ?_) rfl rfl (by kernel_rfl) (by kernel_rfl) (by kernel_rfl) (by kernel_rfl) (fun _ _ _ h => h) (by rfl) ?_ hSw ?_
      rotate_left 1
      · intro W9 hW9
        try dsimp only at hW9
        obtain ⟨⟨p0, p1, p2⟩, z0, z1, z2⟩ := HC.out W9 hW9
        go_simp
        try with_reducible rfl
      try simp only [List.setIfInBounds_toArray, List.set_cons_zero, List.set_cons_succ]
      refine wpAnyU_op (i := 3) (by kernel_rfl) rfl rfl (fun K hK => ?_)
      go_wp2_with fail
      refine ((HRA1.out _ hSw)).mono ?_
      rintro e w9 ⟨rfl, hb9'⟩; have hb9 : Below (n7 + 2) W2 w9 := hSw.trans (hb9'.mono (by have := hSw.size; omega))
      refine hK.out _ _ (fun _ => hb9) ?_
      clear hK K
      try simp only [Act.put, List.setIfInBounds_toArray, List.set_cons_zero, List.set_cons_succ]
      refine wpAnyU_op (i := 5) (by kernel_rfl) rfl rfl (fun K hK => ?_)
      go_wp2_with fail
      refine ((HRB1.out _ hb9)).mono ?_
      rintro e w10 ⟨rfl, hb10'⟩; have hb10 : Below (n7 + 2) W2 w10 := hb9.trans (hb10'.mono (by have := hb9.size; omega))
      refine hK.out _ _ (fun _ => hb10) ?_
      clear hK K
      try simp only [Act.put, List.setIfInBounds_toArray, List.set_cons_zero, List.set_cons_succ]
      obtain ⟨⟨p0, p1, p2⟩, z0, z1, z2⟩ := HC.out w10 hb10
      refine wpAnyU_one (i := 6) (by kernel_rfl) rfl (fun K hK => ?_)
      go_simp
      refine hK.out _ _ (fun _ => hb10) ?_
      clear hK K
      try simp only [Act.put, List.setIfInBounds_toArray, List.set_cons_zero, List.set_cons_succ]
      refine wpAnyU_one (i := 7) (by kernel_rfl) rfl (fun K hK => ?_)
      go_simp
      refine hK.out _ _ (fun _ => hb10) ?_
      clear hK K
      try simp only [Act.put, List.setIfInBounds_toArray, List.set_cons_zero, List.set_cons_succ]
      refine wpAnyU_one (i := 8) (by kernel_rfl) rfl (fun K hK => ?_)
      go_simp
      refine hK.out _ _ (fun _ => hb10) ?_
      clear hK K
      try simp only [Act.put, List.setIfInBounds_toArray, List.set_cons_zero, List.set_cons_succ]
      refine wpAnyU_one (i := 9) (by kernel_rfl) rfl (fun K hK => ?_)
      go_simp
      refine hK.out _ _ (fun _ => hb10) ?_
      clear hK K
      try simp only [Act.put, List.setIfInBounds_toArray, List.set_cons_zero, List.set_cons_succ]
      refine wpAnyU_one (i := 10) (by kernel_rfl) rfl (fun K hK => ?_)
      go_simp
      refine hK.out _ _ (fun _ => hb10) ?_
      clear hK K
      try simp only [Act.put, List.setIfInBounds_toArray, List.set_cons_zero, List.set_cons_succ]
      refine wpAnyU_one (i := 11) (by kernel_rfl) rfl (fun K hK => ?_)
      go_simp
      refine hK.out _ _ (fun _ => hb10) ?_
      clear hK K
      try simp only [Act.put, List.setIfInBounds_toArray, List.set_cons_zero, List.set_cons_succ]
      refine wpAnyU_one (i := 12) (by kernel_rfl) rfl (fun K hK => ?_)
      go_simp
      refine hK.out _ _ (fun _ => hb10) ?_
      clear hK K
      try simp only [Act.put, List.setIfInBounds_toArray, List.set_cons_zero, List.set_cons_succ]
      refine wpAnyU_one (i := 13) (by kernel_rfl) rfl (fun K hK => ?_)
      go_simp
      refine hK.out _ _ (fun _ => hb10) ?_
      clear hK K
      try simp only [Act.put, List.setIfInBounds_toArray, List.set_cons_zero, List.set_cons_succ]
      refine wpAnyU_one (i := 14) (by kernel_rfl) rfl (fun K hK => ?_)
      go_simp
      refine hK.out _ _ (fun _ => hb10) ?_
      clear hK K
      try simp only [Act.put, List.setIfInBounds_toArray, List.set_cons_zero, List.set_cons_succ]
      clear p0 p1 p2 z0 z1 z2
      refine wpAnyU_one (i := 15) (by kernel_rfl) rfl (fun K hK => ?_)
      go_wp2_with fail
      refine ((awake44_any w10)).mono ?_
      rintro e wz ⟨rfl, hbz⟩; have hbz2 : Below (n7 + 2) W2 wz := (hb10).trans (hbz.mono (by have := (hb10).size; omega))
      refine hK.out _ _ (fun _ => hbz2) ?_
      clear hK K
      try simp only [Act.put, List.setIfInBounds_toArray, List.set_cons_zero, List.set_cons_succ]
      refine wpAnyU_one (i := 16) (by kernel_rfl) rfl (fun K hK => ?_)
      go_simp
      refine hK.out _ _ (fun _ => hbz2) ?_
      clear hK K
      try simp only [Act.put, List.setIfInBounds_toArray, List.set_cons_zero, List.set_cons_succ]
      refine wpAnyU_one (i := 17) (by kernel_rfl) rfl (fun K hK => ?_)
      go_simp
      refine hK.out _ _ (fun _ => hbz2) ?_
      clear hK K
      try simp only [Act.put, List.setIfInBounds_toArray, List.set_cons_zero, List.set_cons_succ]
      refine wpAnyU_done (by kernel_rfl) ?_ _
      go_wp2_with fail
      go_ret
      exact ⟨by first | trivial | rfl | simp, (HW.out wz hbz2).2.2.2⟩
    | false =>
      rw [Bool.false_or] at hsx
      obtain ⟨ql, hql⟩ : ∃ ql, ((la.length : Int) == 1) = ql := ⟨_, rfl⟩
      rw [hql] at hsx
      cases ql with
      | true =>
        refine wp_region_U (fun W' => Below (n7 + 2) W2 W') 18 (by kernel_rfl) ?_
        refine wpAnyU_takeD (i := 0) (v := ?_) rfl rfl (by kernel_rfl) (by kernel_rfl) (by kernel_rfl) (by kernel_rfl) (fun _ _ _ h => h) (by rfl) ?_ hSw ?_
        rotate_left 1
        · intro W9 hW9
          try dsimp only at hW9
          obtain _ := True.intro
          go_simp
          try with_reducible rfl
        try simp only [List.setIfInBounds_toArray, List.set_cons_zero, List.set_cons_succ]
        refine wpAnyU_takeD (i := 1) (v := ?_) rfl rfl (by kernel_rfl) (by kernel_rfl) (by kernel_rfl) (by kernel_rfl) (fun _ _ _ h => h) (by rfl) ?_ hSw ?_
        rotate_left 1
        · intro W9 hW9
          try dsimp only at hW9
          obtain _ := True.intro
          go_simp
          try with_reducible rfl
        try simp only [List.setIfInBounds_toArray, List.set_cons_zero, List.set_cons_succ]
        refine wpAnyU_takeD (i := 2) (v := ?_) rfl rfl (by kernel_rfl) (by kernel_rfl) (by kernel_rfl) (by kernel_rfl) (fun _ _ _ h => h) (by rfl) ?_ hSw ?_
        rotate_left 1
        · intro W9 hW9
          try dsimp only at hW9
          obtain ⟨⟨p0, p1, p2⟩, z0, z1, z2⟩ := HC.out W9 hW9
          go_simp
          try with_reducible rfl
        try simp only [List.setIfInBounds_toArray, List.set_cons_zero, List.set_cons_succ]
        refine wpAnyU_takeD (i := 4) (v := ?_) rfl rfl (by kernel_rfl) (by kernel_rfl) (by kernel_rfl) (by kernel_rfl) (fun _ _ _ h => h) (by rfl) ?_ hSw ?_
        rotate_left 1
        · intro W9 hW9
          try dsimp only at hW9
          obtain ⟨⟨p0, p1, p2⟩, z0, z1, z2⟩ := HC.out W9 hW9
          go_simp
          try with_reducible rfl
        try simp only [List.setIfInBounds_toArray, List.set_cons_zero, List.set_cons_succ]
        refine wpAnyU_op (i := 3) (by kernel_rfl) rfl rfl (fun K hK => ?_)
        go_wp2_with fail
        refine ((HRA1.out _ hSw)).mono ?_
        rintro e w9 ⟨rfl, hb9'⟩; have hb9 : Below (n7 + 2) W2 w9 := hSw.trans (hb9'.mono (by have := hSw.size; omega))
        refine hK.out _ _ (fun _ => hb9) ?_
        clear hK K
        try simp only [Act.put, List.setIfInBounds_toArray, List.set_cons_zero, List.set_cons_succ]
        refine wpAnyU_op (i := 5) (by kernel_rfl) rfl rfl (fun K hK => ?_)
        go_wp2_with fail
        refine ((HRB1.out _ hb9)).mono ?_
        rintro e w10 ⟨rfl, hb10'⟩; have hb10 : Below (n7 + 2) W2 w10 := hb9.trans (hb10'.mono (by have := hb9.size; omega))
        refine hK.out _ _ (fun _ => hb10) ?_
        clear hK K
        try simp only [Act.put, List.setIfInBounds_toArray, List.set_cons_zero, List.set_cons_succ]
        obtain ⟨⟨p0, p1, p2⟩, z0, z1, z2⟩ := HC.out w10 hb10
        refine wpAnyU_one (i := 6) (by kernel_rfl) rfl (fun K hK => ?_)
        go_simp
        refine hK.out _ _ (fun _ => hb10) ?_
        clear hK K
        try simp only [Act.put, List.setIfInBounds_toArray, List.set_cons_zero, List.set_cons_succ]
        refine wpAnyU_one (i := 7) (by kernel_rfl) rfl (fun K hK => ?_)
        go_simp
        refine hK.out _ _ (fun _ => hb10) ?_
        clear hK K
        try simp only [Act.put, List.setIfInBounds_toArray, List.set_cons_zero, List.set_cons_succ]
        refine wpAnyU_one (i := 8) (by kernel_rfl) rfl (fun K hK => ?_)
        go_simp
        refine hK.out _ _ (fun _ => hb10) ?_
        clear hK K
        try simp only [Act.put, List.setIfInBounds_toArray, List.set_cons_zero, List.set_cons_succ]
        refine wpAnyU_one (i := 9) (by kernel_rfl) rfl (fun K hK => ?_)
        go_simp
        refine hK.out _ _ (fun _ => hb10) ?_
        clear hK K
        try simp only [Act.put, List.setIfInBounds_toArray, List.set_cons_zero, List.set_cons_succ]
        refine wpAnyU_one (i := 10) (by kernel_rfl) rfl (fun K hK => ?_)
        go_simp
        refine hK.out _ _ (fun _ => hb10) ?_
        clear hK K
        try simp only [Act.put, List.setIfInBounds_toArray, List.set_cons_zero, List.set_cons_succ]
        refine wpAnyU_one (i := 11) (by kernel_rfl) rfl (fun K hK => ?_)
        go_simp
        refine hK.out _ _ (fun _ => hb10) ?_
        clear hK K
        try simp only [Act.put, List.setIfInBounds_toArray, List.set_cons_zero, List.set_cons_succ]
        refine wpAnyU_one (i := 12) (by kernel_rfl) rfl (fun K hK => ?_)
        go_simp
        refine hK.out _ _ (fun _ => hb10) ?_
        clear hK K
        try simp only [Act.put, List.setIfInBounds_toArray, List.set_cons_zero, List.set_cons_succ]
        refine wpAnyU_one (i := 13) (by kernel_rfl) rfl (fun K hK => ?_)
        go_simp
        refine hK.out _ _ (fun _ => hb10) ?_
        clear hK K
        try simp only [Act.put, List.setIfInBounds_toArray, List.set_cons_zero, List.set_cons_succ]
        refine wpAnyU_one (i := 14) (by kernel_rfl) rfl (fun K hK => ?_)
        go_simp
        refine hK.out _ _ (fun _ => hb10) ?_
        clear hK K
        try simp only [Act.put, List.setIfInBounds_toArray, List.set_cons_zero, List.set_cons_succ]
        clear p0 p1 p2 z0 z1 z2
        refine wpAnyU_one (i := 15) (by kernel_rfl) rfl (fun K hK => ?_)
        go_wp2_with fail
        refine ((awake44_any w10)).mono ?_
        rintro e wz ⟨rfl, hbz⟩; have hbz2 : Below (n7 + 2) W2 wz := (hb10).trans (hbz.mono (by have := (hb10).size; omega))
        refine hK.out _ _ (fun _ => hbz2) ?_
        clear hK K
        try simp only [Act.put, List.setIfInBounds_toArray, List.set_cons_zero, List.set_cons_succ]
        refine wpAnyU_one (i := 16) (by kernel_rfl) rfl (fun K hK => ?_)
        go_simp
        refine hK.out _ _ (fun _ => hbz2) ?_
        clear hK K
        try simp only [Act.put, List.setIfInBounds_toArray, List.set_cons_zero, List.set_cons_succ]
        refine wpAnyU_one (i := 17) (by kernel_rfl) rfl (fun K hK => ?_)
        go_simp
        refine hK.out _ _ (fun _ => hbz2) ?_
        clear hK K
        try simp only [Act.put, List.setIfInBounds_toArray, List.set_cons_zero, List.set_cons_succ]
        refine wpAnyU_done (by kernel_rfl) ?_ _
        go_wp2_with fail
        go_ret
        exact ⟨by first | trivial | rfl | simp, (HW.out wz hbz2).2.2.2⟩
      | false =>
        refine wp_region_U (fun W' => Below (n7 + 2) W2 W') 18 (by kernel_rfl) ?_
        refine wpAnyU_takeD (i := 0) (v := ?_) rfl rfl (by kernel_rfl) (by kernel_rfl) (by kernel_rfl) (by kernel_rfl) (fun _ _ _ h => h) (by rfl) ?_ hSw ?_
        rotate_left 1
        · intro W9 hW9
          try dsimp only at hW9
          obtain _ := True.intro
          go_simp
          try with_reducible rfl
        try simp only [List.setIfInBounds_toArray, List.set_cons_zero, List.set_cons_succ]
        refine wpAnyU_takeD (i := 1) (v := ?_) rfl rfl (by kernel_rfl) (by kernel_rfl) (by kernel_rfl) (by kernel_rfl) (fun _ _ _ h => h) (by rfl) ?_ hSw ?_
        rotate_left 1
        · intro W9 hW9
          try dsimp only at hW9
          obtain _ := True.intro
          go_simp
          try with_reducible rfl
        try simp only [List.setIfInBounds_toArray, List.set_cons_zero, List.set_cons_succ]
        refine wpAnyU_takeD (i := 2) (v := ?_) rfl rfl (by kernel_rfl) (by kernel_rfl) (by kernel_rfl) (by kernel_rfl) (fun _ _ _ h => h) (by rfl) ?_ hSw ?_
        rotate_left 1
        · intro W9 hW9
          try dsimp only at hW9
          obtain ⟨⟨p0, p1, p2⟩, z0, z1, z2⟩ := HC.out W9 hW9
          go_simp
          try with_reducible rfl
        try simp only [List.setIfInBounds_toArray, List.set_cons_zero, List.set_cons_succ]
        refine wpAnyU_takeD (i := 4) (v := ?_) rfl rfl (by kernel_rfl) (by kernel_rfl) (by kernel_rfl) (by kernel_rfl) (fun _ _ _ h => h) (by rfl) ?_ hSw ?_
        rotate_left 1
        · intro W9 hW9
          try dsimp only at hW9
          obtain ⟨⟨p0, p1, p2⟩, z0, z1, z2⟩ := HC.out W9 hW9
          go_simp
          try with_reducible rfl
        try simp only [List.setIfInBounds_toArray, List.set_cons_zero, List.set_cons_succ]
        refine wpAnyU_op (i := 3) (by kernel_rfl) rfl rfl (fun K hK => ?_)
        go_wp2_with fail
        refine ((HRA1.out _ hSw)).mono ?_
        rintro e w9 ⟨rfl, hb9'⟩; have hb9 : Below (n7 + 2) W2 w9 := hSw.trans (hb9'.mono (by have := hSw.size; omega))
        refine hK.out _ _ (fun _ => hb9) ?_
        clear hK K
        try simp only [Act.put, List.setIfInBounds_toArray, List.set_cons_zero, List.set_cons_succ]
        refine wpAnyU_op (i := 5) (by kernel_rfl) rfl rfl (fun K hK => ?_)
        go_wp2_with fail
        refine ((HRB1.out _ hb9)).mono ?_
        rintro e w10 ⟨rfl, hb10'⟩; have hb10 : Below (n7 + 2) W2 w10 := hb9.trans (hb10'.mono (by have := hb9.size; omega))
        refine hK.out _ _ (fun _ => hb10) ?_
        clear hK K
        try simp only [Act.put, List.setIfInBounds_toArray, List.set_cons_zero, List.set_cons_succ]
        obtain ⟨⟨p0, p1, p2⟩, z0, z1, z2⟩ := HC.out w10 hb10
        refine wpAnyU_one (i := 6) (by kernel_rfl) rfl (fun K hK => ?_)
        go_simp
        refine hK.out _ _ (fun _ => hb10) ?_
        clear hK K
        try simp only [Act.put, List.setIfInBounds_toArray, List.set_cons_zero, List.set_cons_succ]
        refine wpAnyU_one (i := 7) (by kernel_rfl) rfl (fun K hK => ?_)
        go_simp
        refine hK.out _ _ (fun _ => hb10) ?_
        clear hK K
        try simp only [Act.put, List.setIfInBounds_toArray, List.set_cons_zero, List.set_cons_succ]
        refine wpAnyU_one (i := 8) (by kernel_rfl) rfl (fun K hK => ?_)
        go_simp
        refine hK.out _ _ (fun _ => hb10) ?_
        clear hK K
        try simp only [Act.put, List.setIfInBounds_toArray, List.set_cons_zero, List.set_cons_succ]
        refine wpAnyU_one (i := 9) (by kernel_rfl) rfl (fun K hK => ?_)
        go_simp
        refine hK.out _ _ (fun _ => hb10) ?_
        clear hK K
        try simp only [Act.put, List.setIfInBounds_toArray, List.set_cons_zero, List.set_cons_succ]
        refine wpAnyU_one (i := 10) (by kernel_rfl) rfl (fun K hK => ?_)
        go_simp
        refine hK.out _ _ (fun _ => hb10) ?_
        clear hK K
        try simp only [Act.put, List.setIfInBounds_toArray, List.set_cons_zero, List.set_cons_succ]
        refine wpAnyU_one (i := 11) (by kernel_rfl) rfl (fun K hK => ?_)
        go_simp
        refine hK.out _ _ (fun _ => hb10) ?_
        clear hK K
        try simp only [Act.put, List.setIfInBounds_toArray, List.set_cons_zero, List.set_cons_succ]
        refine wpAnyU_one (i := 12) (by kernel_rfl) rfl (fun K hK => ?_)
        go_simp
        refine hK.out _ _ (fun _ => hb10) ?_
        clear hK K
        try simp only [Act.put, List.setIfInBounds_toArray, List.set_cons_zero, List.set_cons_succ]
        refine wpAnyU_one (i := 13) (by kernel_rfl) rfl (fun K hK => ?_)
        go_simp
        refine hK.out _ _ (fun _ => hb10) ?_
        clear hK K
        try simp only [Act.put, List.setIfInBounds_toArray, List.set_cons_zero, List.set_cons_succ]
        refine wpAnyU_one (i := 14) (by kernel_rfl) rfl (fun K hK => ?_)
        go_simp
        refine hK.out _ _ (fun _ => hb10) ?_
        clear hK K
        try simp only [Act.put, List.setIfInBounds_toArray, List.set_cons_zero, List.set_cons_succ]
        clear p0 p1 p2 z0 z1 z2
        refine wpAnyU_one (i := 15) (by kernel_rfl) rfl (fun K hK => ?_)
        go_wp2_with fail
        refine ((awake44_any w10)).mono ?_
        rintro e wz ⟨rfl, hbz⟩; have hbz2 : Below (n7 + 2) W2 wz := (hb10).trans (hbz.mono (by have := (hb10).size; omega))
        refine hK.out _ _ (fun _ => hbz2) ?_
        clear hK K
        try simp only [Act.put, List.setIfInBounds_toArray, List.set_cons_zero, List.set_cons_succ]
        refine wpAnyU_one (i := 16) (by kernel_rfl) rfl (fun K hK => ?_)
        go_simp
        refine hK.out _ _ (fun _ => hbz2) ?_
        clear hK K
        try simp only [Act.put, List.setIfInBounds_toArray, List.set_cons_zero, List.set_cons_succ]
        refine wpAnyU_one (i := 17) (by kernel_rfl) rfl (fun K hK => ?_)
        go_simp
        refine hK.out _ _ (fun _ => hbz2) ?_
        clear hK K
        try simp only [Act.put, List.setIfInBounds_toArray, List.set_cons_zero, List.set_cons_succ]
        refine wpAnyU_done (by kernel_rfl) ?_ _
        go_wp2_with fail
        go_ret
        exact ⟨by first | trivial | rfl | simp, (HW.out wz hbz2).2.2.2⟩
end Go.Proofs.Ytjehedfdikdfpaa
