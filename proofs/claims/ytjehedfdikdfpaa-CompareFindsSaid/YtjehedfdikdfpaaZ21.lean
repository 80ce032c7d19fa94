/-
  trees: the walk, and what it computes.; What two trees have that trees returns; the law CompareSymmetric: the walk.
-/
import Derived.Test.YtjehedfdikdfpaaZ04
import Derived.Test.YtjehedfdikdfpaaZ07
import Derived.Test.YtjehedfdikdfpaaZ08
import Derived.Test.YtjehedfdikdfpaaZ12
set_option linter.unusedVariables false
set_option linter.unusedSimpArgs false
set_option linter.unusedSectionVars false
set_option linter.unnecessarySimpa false
namespace Go.Proofs.Ytjehedfdikdfpaa
open Go.RowKit Go.Shelf
attribute [local go_sem] Oper.semAt_some

/-- there are trees -/
def treesB (l m : List Sec) : Bool := decide (1 ≤ l.length ∧ l.length ≤ 100 ∧ l.length = m.length)
/-- the leaf's size -/
def leafN (leaf : Int) : Nat := (leaf % 12).toNat + 1
/-- two trees of the same size and leaf, with their checks -/
def RetTrees (l m : List Sec) (n : Nat) (w : World) (e : Ending) (w' : World) : Prop :=
  ∃ (t1 t2 : Tr) (A A2 : Option Addr) (c c2 : Nat), e = .returned (.tuple #[.agg #[.int .i64 t1.1, .int .i64 t1.2.1, .slice A t1.2.2.length c], .agg #[.int .i64 t2.1, .int .i64 t2.2.1, .slice A2 t2.2.2.length c2], .bool (treesB l m)]) ∧ (t1.2.2.length ≤ c ∧ c ≤ maxLen) ∧ (t2.2.2.length ≤ c2 ∧ c2 ≤ maxLen) ∧
    SlAt (encSl encU64) w' (Nw w.heap.size w'.heap.size) A t1.2.2 ∧ SlAt (encSl encU64) w' (Nw w.heap.size w'.heap.size) A2 t2.2.2 ∧ Below w.heap.size w w' ∧
    (treesB l m = true → t1 = buildT l n ∧ t2 = buildT m n)
/-- all blocks but two keep -/
def BelXX (x y : Nat) (w w' : World) : Prop := ∀ g, g < w.heap.size → g ≠ x → g ≠ y → w'.heap[g]? = w.heap[g]?
theorem set3_row {w : World} {b : Nat} {T : TypeId} {c0 c1 c2 : Value} (h : w.heap[b]? = some (.cells #[c0, c1, c2] T (0, 0))) (x0 x1 x2 : Value) :
    (set3 w b x0 x1 x2).heap[b]? = some (.cells #[x0, x1, x2] T (0, 0)) := by
  simp [set3, World.setCell, Array.getElem?_modify, h]
theorem set3_other {W : World} {b b' : Nat} (h : b' ≠ b) (x0 x1 x2 : Value) : (set3 W b x0 x1 x2).heap[b']? = W.heap[b']? := by
  unfold set3
  exact (heap_setCell_other _ ⟨b, 2, none⟩ b' _ h).trans ((heap_setCell_other _ ⟨b, 1, none⟩ b' _ h).trans (heap_setCell_other _ ⟨b, 0, none⟩ b' _ h))
theorem set3_sz {W : World} {b : Nat} {x0 x1 x2 : Value} : (set3 W b x0 x1 x2).heap.size = W.heap.size := by simp [set3, World.setCell]
theorem set3_below {B b : Nat} {a w : World} (h : Below B a w) (hB : B ≤ b) (x0 x1 x2 : Value) : Below B a (set3 w b x0 x1 x2) :=
  ((h.setCell (p := ⟨b, 0, none⟩) hB x0).setCell (p := ⟨b, 1, none⟩) hB x1).setCell (p := ⟨b, 2, none⟩) hB x2
theorem limN_small {a : Nat} {b : Int} (ha : a ≤ 100) (hb : 1 ≤ b ∧ b ≤ 12) : (limN a b = 0 ∧ 1 ≤ a) ∨ (limN a b = 2 ∧ a = 0) := by
  unfold limN
  by_cases h : 1 ≤ a
  · left; rw [if_neg (by omega), if_neg (by omega)]; exact ⟨rfl, h⟩
  · right; rw [if_pos (by omega)]; exact ⟨rfl, by omega⟩
/-- take number i first: it is not wanted -/
theorem wpAnyU_takeN {P : Program} {ops : Array Oper} {Q : Exit → Act → World → Prop} {md : Region.Mode} {S : World → Prop} {k i : Nat} {oi : Oper} {d : Nat} {fuel : Nat} {listed : Array Bool} {a : Act} {w : World} (hi : ops[i]? = some oi) (hd : oi.dst = some d)
    (hs : Region.noSelect ops = true) (hf : Region.free md ops listed i = true) (hr : (Region.ready md ops listed).contains i = true) (hk : (waitsFor md ops k i && !(i == k)) = true)
    (hQ : ∀ c a w, Q (.panic c) (a.put (some d) undef) w → Q (.panic c) a w) (hw : Region.wanted oi (yielded ops a.tmps) = false) (hS : S w)
    (h : wpAnyU P md ops Q S k fuel (listed.setIfInBounds i true) { tmps := a.tmps.setIfInBounds d undef, defers := a.defers } w) : wpAnyU P md ops Q S k (fuel + 1) listed a w := by
  simp only [Bool.and_eq_true, Bool.not_eq_true', beq_eq_false_iff_ne] at hk
  exact wpAnyU_first hi (Region.noSelect_spec hs) (by rw [hd]; exact hQ) hk.2 hk.1 fuel listed a w (Region.free_spec hi hf) (by simpa using hr) (Or.inr ⟨hw, rfl⟩) hS (by rw [hd]; exact h)
set_option maxHeartbeats 8000000 in
set_option maxRecDepth 100000 in
theorem trees44_any (A A2 : Option Addr) (c c2 n n2 : Nat) (l m : List Sec) (leaf : Int) (w : World) (hn : l.length = n) (hn2 : m.length = n2) (h1 : SlAt encSec w (Bl w.heap.size) A l) (h2 : SlAt encSec w (Bl w.heap.size) A2 m) (hc : n ≤ c ∧ c ≤ maxLen) (hc2 : n2 ≤ c2 ∧ c2 ≤ maxLen) (hl : 0 ≤ leaf ∧ leaf < 256) :
    Calls Try.prog 31 #[.slice A n c, .slice A2 n2 c2, .int .u8 leaf] w (RetTrees l m (leafN leaf) w) := by
  subst hn hn2
  obtain ⟨n0, hn0⟩ : ∃ n0, w.heap.size = n0 := ⟨_, rfl⟩
  obtain ⟨W0, hW0⟩ : ∃ W0, (w.alloc (.cells #[.int .i64 0, .int .i64 0, .slice none 0 0] 24)).alloc (.cells #[.int .i64 0, .int .i64 0, .slice none 0 0] 24) = W0 := ⟨_, rfl⟩
  have hB0 : Below n0 w W0 := by rw [← hW0, ← hn0]; exact ext_alloc (ext_alloc (Below.refl _ _))
  have hr0 : W0.heap[n0]? = some (.cells #[.int .i64 0, .int .i64 0, .slice none 0 0] 24 (0, 0)) := by
    rw [← hW0, ← hn0]; exact (Below.heap_alloc _ _ _ (by simp)).trans (heap_alloc_new _ _)
  have hr1 : W0.heap[n0 + 1]? = some (.cells #[.int .i64 0, .int .i64 0, .slice none 0 0] 24 (0, 0)) := by
    rw [← hW0, ← hn0]; exact heap_new2 _ _ _
  have hz0 : W0.heap.size = n0 + 2 := by rw [← hW0, ← hn0]; simp
  have HN0 := Lib.hid hn0
  obtain ⟨a0, a1, a2, af⟩ := blk3 hr0
  obtain ⟨b0, b1, b2, bf⟩ := blk3 hr1
  have hlm := hc.2
  have hlm2 := hc2.2
  unfold maxLen at hlm hlm2
  by_cases hok : l.length ≤ 100 ∧ l.length = m.length
  · obtain ⟨hl100, hlen⟩ := hok
    have hb1 : ¬ ((100 : Int) < l.length) := by omega
    have hb2 : ((l.length : Int) != (m.length : Int)) = false := by rw [hlen]; simp
    obtain ⟨q, hq⟩ : ∃ q : Nat, leaf = q := ⟨leaf.toNat, by omega⟩
    subst hq
    obtain ⟨nn, hnn⟩ : ∃ nn, leafN (q : Int) = nn := ⟨_, rfl⟩
    have hnv : (q : Int) % 12 + 1 = (nn : Int) := by rw [← hnn]; unfold leafN; omega
    have hn12 : 1 ≤ nn ∧ nn ≤ 12 := by omega
    have HNV := Lib.hid hnv
    have HNN := Lib.hid hnn
    have HLEN := Lib.hid hlen
    have H1 : Hid (∀ W, Below n0 w W → SlAt encSec W (Bl W.heap.size) A l) := fun W hb => h1.fwd (by rw [hn0]; exact hb)
    have H2 : Hid (∀ W, Below n0 w W → SlAt encSec W (Bl W.heap.size) A2 m) := fun W hb => h2.fwd (by rw [hn0]; exact hb)
    have HBA := Lib.hid (fun W (hb : Below n0 w W) => build_any A c l.length l (nn : Int) W rfl hc (H1.out W hb) (by omega) (by unfold I64; omega))
    have HBB := Lib.hid (fun W (hb : Below n0 w W) => build_any A2 c2 m.length m (nn : Int) W rfl hc2 (H2.out W hb) (by omega) (by unfold I64; omega))
    clear hnn hlen h1 h2
    go_enter Try.func31, Try.ntmps31
    go_wp2_with fail
    try rw [HNV.out]
    refine (HBA.out W0 hB0).mono ?_
    rintro e w1 ⟨B1, bc1, rfl, x1, x2, x3, hb1'⟩
    have hb01 : Below n0 w w1 := hB0.trans (hb1'.mono (by omega))
    have hz1 := hb1'.size
    obtain ⟨T1, hT1⟩ : ∃ T, buildT l (nn : Int) = T := ⟨_, rfl⟩
    obtain ⟨e1, he1⟩ : ∃ e, buildErr l (nn : Int) = e := ⟨_, rfl⟩
    rw [hT1] at x1 x3 ⊢
    rw [he1]
    obtain ⟨n3, hn3⟩ : ∃ n3, w1.heap.size = n3 := ⟨_, rfl⟩
    obtain ⟨W2, hW2⟩ : ∃ W2, w1.alloc (.cells #[.int .i64 T1.1, .int .i64 T1.2.1, .slice B1 T1.2.2.length bc1] 24) = W2 := ⟨_, rfl⟩
    have hb12 : Below n3 w1 W2 := by rw [← hW2, ← hn3]; exact ext_alloc (Below.refl _ _)
    have hr2 : W2.heap[n3]? = some (.cells #[.int .i64 T1.1, .int .i64 T1.2.1, .slice B1 T1.2.2.length bc1] 24 (0, 0)) := by rw [← hW2, ← hn3]; exact heap_alloc_new _ _
    have hz2 : W2.heap.size = n3 + 1 := by rw [← hW2, ← hn3]; simp
    have hb02 : Below n0 w W2 := hb01.trans (hb12.mono (by omega))
    have HW2 := Lib.hid hW2
    clear hW2
    go_upto_region 5 with (fail)
    rw [HW2.out]
    have HN3 := Lib.hid hn3
    have hn03 : n0 + 2 ≤ n3 := by omega
    clear hn3
    go_wp2_with fail
    try rw [HNV.out]
    refine (HBB.out W2 hb02).mono ?_
    rintro e w3 ⟨B2, bc2, rfl, y1, y2, y3, hb3⟩
    obtain ⟨T2, hT2⟩ : ∃ T, buildT m (nn : Int) = T := ⟨_, rfl⟩
    obtain ⟨e2, he2⟩ : ∃ e, buildErr m (nn : Int) = e := ⟨_, rfl⟩
    rw [hT2] at y1 y3 ⊢
    rw [he2]
    have hz3 := hb3.size
    obtain ⟨n5, hn5⟩ : ∃ n5, w3.heap.size = n5 := ⟨_, rfl⟩
    obtain ⟨W4, hW4⟩ : ∃ W4, w3.alloc (.cells #[.int .i64 T2.1, .int .i64 T2.2.1, .slice B2 T2.2.2.length bc2] 24) = W4 := ⟨_, rfl⟩
    have hb34 : Below n5 w3 W4 := by rw [← hW4, ← hn5]; exact ext_alloc (Below.refl _ _)
    have hr4 : W4.heap[n5]? = some (.cells #[.int .i64 T2.1, .int .i64 T2.2.1, .slice B2 T2.2.2.length bc2] 24 (0, 0)) := by rw [← hW4, ← hn5]; exact heap_alloc_new _ _
    have hz4 : W4.heap.size = n5 + 1 := by rw [← hW4, ← hn5]; simp
    have hn35 : n3 + 1 ≤ n5 := by omega
    have hn3e := HN3.out
    have hb24 : Below (n3 + 1) W2 W4 := (hb3.mono (by omega)).trans (hb34.mono (by omega))
    have hb04 : Below n0 w W4 := hb02.trans (hb24.mono (by omega))
    have hlow : ∀ g, g < n0 + 2 → W4.heap[g]? = W0.heap[g]? := fun g hg => (hb24.block g (by omega)).trans ((hb12.block g (by omega)).trans (hb1'.block g (by omega)))
    have hrA : W4.heap[n0]? = some (.cells #[.int .i64 0, .int .i64 0, .slice none 0 0] 24 (0, 0)) := (hlow n0 (by omega)).trans hr0
    have hrB : W4.heap[n0 + 1]? = some (.cells #[.int .i64 0, .int .i64 0, .slice none 0 0] 24 (0, 0)) := (hlow (n0 + 1) (by omega)).trans hr1
    have hr24 := (hb24.block n3 (by omega)).trans hr2
    have hsA : SlAt (encSl encU64) W4 (fun g => n0 + 2 ≤ g ∧ g < W4.heap.size) B1 T1.2.2 := (x3.blk (fun g hg => (hb24.block g (by have := hg.2; omega)).trans (hb12.block g (by have := hg.2; omega)))).more (fun g hg => ⟨by have := hg.1; omega, by have := hg.2; omega⟩)
    have hsB : SlAt (encSl encU64) W4 (fun g => n0 + 2 ≤ g ∧ g < W4.heap.size) B2 T2.2.2 := (y3.blk (fun g hg => hb34.block g (by have := hg.2; omega))).more (fun g hg => ⟨by have := hg.1; omega, by have := hg.2; omega⟩)
    have hE : Hid ((e1 = 0 ∧ e2 = 0 ∧ treesB l m = true) ∨ (e1 = 2 ∧ treesB l m = false)) := by
      rw [Hid, ← he1, ← he2]
      unfold buildErr treesB
      have hll := HLEN.out
      rcases limN_small (a := l.length) (b := (nn : Int)) hl100 (by omega) with ⟨h0, h1⟩ | ⟨h0, h1⟩
      · left
        refine ⟨h0, by rw [← hll]; exact h0, decide_eq_true ⟨h1, hl100, hll⟩⟩
      · right
        exact ⟨h0, decide_eq_false (by omega)⟩
    have HTT : Hid (buildT l (nn : Int) = T1 ∧ buildT m (nn : Int) = T2) := ⟨hT1, hT2⟩
    have HW4 := Lib.hid hW4
    clear hW4 x3 y3 hb3 hb34 hb1' hb12 hb24 hlow he1 he2 hT1 hT2 HBA HBB
    go_upto_region 6 with (fail)
    rw [HW4.out]
    clear hn3e
    clear hn5 a0 a1 a2 af b0 b1 b2 bf hnv hW0 hn0
    have HROWS : Hid (∀ W, BelXX n0 (n0 + 1) W4 W → (W.cell? ⟨n3, 0, none⟩ = some (.int .i64 T1.1) ∧ W.cell? ⟨n3, 1, none⟩ = some (.int .i64 T1.2.1) ∧ W.cell? ⟨n3, 2, none⟩ = some (.slice B1 T1.2.2.length bc1)) ∧ W.cell? ⟨n5, 0, none⟩ = some (.int .i64 T2.1) ∧ W.cell? ⟨n5, 1, none⟩ = some (.int .i64 T2.2.1) ∧ W.cell? ⟨n5, 2, none⟩ = some (.slice B2 T2.2.2.length bc2)) := fun W hb => by
      obtain ⟨u0, u1, u2, _⟩ := blk3 ((hb n3 (by omega) (by omega) (by omega)).trans hr24)
      obtain ⟨u3, u4, u5, _⟩ := blk3 ((hb n5 (by omega) (by omega) (by omega)).trans hr4)
      exact ⟨⟨u0, u1, u2⟩, u3, u4, u5⟩
    have hSw : BelXX n0 (n0 + 1) W4 W4.drew := fun _ _ _ _ => rfl
    have hfin : Hid (∀ t, treesB l m = t → RetTrees l m (leafN (q : Int)) w (.returned (.tuple #[.agg #[.int .i64 T1.1, .int .i64 T1.2.1, .slice B1 T1.2.2.length bc1], .agg #[.int .i64 T2.1, .int .i64 T2.2.1, .slice B2 T2.2.2.length bc2], .bool t])) (set3 (set3 W4.drew n0 (.int .i64 T1.1) (.int .i64 T1.2.1) (.slice B1 T1.2.2.length bc1)) (n0 + 1) (.int .i64 T2.1) (.int .i64 T2.2.1) (.slice B2 T2.2.2.length bc2))) := fun t ht => by
      have hko : ∀ g, n0 + 2 ≤ g → (set3 (set3 W4.drew n0 (.int .i64 T1.1) (.int .i64 T1.2.1) (.slice B1 T1.2.2.length bc1)) (n0 + 1) (.int .i64 T2.1) (.int .i64 T2.2.1) (.slice B2 T2.2.2.length bc2)).heap[g]? = W4.heap[g]? := fun g hg => (set3_other (by omega) _ _ _).trans ((set3_other (by omega) _ _ _).trans rfl)
      have hsz : (set3 (set3 W4.drew n0 (.int .i64 T1.1) (.int .i64 T1.2.1) (.slice B1 T1.2.2.length bc1)) (n0 + 1) (.int .i64 T2.1) (.int .i64 T2.2.1) (.slice B2 T2.2.2.length bc2)).heap.size = W4.heap.size := by rw [set3_sz, set3_sz]; rfl
      refine ⟨T1, T2, B1, B2, bc1, bc2, by rw [ht], ⟨x1, x2⟩, ⟨y1, y2⟩, (hsA.blk (fun g hg => hko g hg.1)).more (fun g hg => ⟨by have := HN0.out; have := hg.1; omega, by rw [hsz]; exact hg.2⟩), (hsB.blk (fun g hg => hko g hg.1)).more (fun g hg => ⟨by have := HN0.out; have := hg.1; omega, by rw [hsz]; exact hg.2⟩), ?_, fun _ => ?_⟩
      · rw [HN0.out]
        exact set3_below (set3_below hb04.drew (Nat.le_refl _) _ _ _) (by omega) _ _ _
      · rw [HNN.out]
        exact ⟨HTT.out.1.symm, HTT.out.2.symm⟩
    have hHE := hE.out
    rcases hHE with ⟨rfl, rfl, ht⟩ | ⟨rfl, ht⟩
    · refine wp_region_U (fun W' => BelXX n0 (n0 + 1) W4 W') 11 (by kernel_rfl) ?_
      refine wpAnyU_takeD (i := 0) (v := ?_) rfl rfl (by kernel_rfl) (by kernel_rfl) (by kernel_rfl) (by kernel_rfl) (fun _ _ _ h => h) (by rfl) ?_ hSw ?_
      rotate_left 1
      · intro W9 hW9
        try dsimp only at hW9
        obtain ⟨⟨u0, u1, u2⟩, u3, u4, u5⟩ := HROWS.out W9 hW9
        go_simp
        try with_reducible rfl
      try simp only [List.setIfInBounds_toArray, List.set_cons_zero, List.set_cons_succ]
      refine wpAnyU_takeD (i := 1) (v := ?_) rfl rfl (by kernel_rfl) (by kernel_rfl) (by kernel_rfl) (by kernel_rfl) (fun _ _ _ h => h) (by rfl) ?_ hSw ?_
      rotate_left 1
      · intro W9 hW9
        try dsimp only at hW9
        obtain ⟨⟨u0, u1, u2⟩, u3, u4, u5⟩ := HROWS.out W9 hW9
        go_simp
        try with_reducible rfl
      try simp only [List.setIfInBounds_toArray, List.set_cons_zero, List.set_cons_succ]
      refine wpAnyU_takeD (i := 2) (v := ?_) rfl rfl (by kernel_rfl) (by kernel_rfl) (by kernel_rfl) (by kernel_rfl) (fun _ _ _ h => h) (by rfl) ?_ hSw ?_
      rotate_left 1
      · intro W9 hW9
        try dsimp only at hW9
        obtain _ := True.intro
        go_simp
        try with_reducible rfl
      try simp only [List.setIfInBounds_toArray, List.set_cons_zero, List.set_cons_succ]
      refine wpAnyU_takeD (i := 3) (v := ?_) rfl rfl (by kernel_rfl) (by kernel_rfl) (by kernel_rfl) (by kernel_rfl) (fun _ _ _ h => h) (by rfl) ?_ hSw ?_
      rotate_left 1
      · intro W9 hW9
        try dsimp only at hW9
        obtain _ := True.intro
        go_simp
        try with_reducible rfl
      try simp only [List.setIfInBounds_toArray, List.set_cons_zero, List.set_cons_succ]
      refine wpAnyU_takeD (i := 4) (v := ?_) rfl rfl (by kernel_rfl) (by kernel_rfl) (by kernel_rfl) (by kernel_rfl) (fun _ _ _ h => h) (by rfl) ?_ hSw ?_
      rotate_left 1
      · intro W9 hW9
        try dsimp only at hW9
        obtain _ := True.intro
        go_simp
        try with_reducible rfl
      try simp only [List.setIfInBounds_toArray, List.set_cons_zero, List.set_cons_succ]
      refine wpAnyU_takeD (i := 5) (v := ?_) rfl rfl (by kernel_rfl) (by kernel_rfl) (by kernel_rfl) (by kernel_rfl) (fun _ _ _ h => h) (by rfl) ?_ hSw ?_
      rotate_left 1
      · intro W9 hW9
        try dsimp only at hW9
        obtain _ := True.intro
        go_simp
        try with_reducible rfl
      try simp only [List.setIfInBounds_toArray, List.set_cons_zero, List.set_cons_succ]
      refine wpAnyU_takeD (i := 6) (v := ?_) rfl rfl (by kernel_rfl) (by kernel_rfl) (by kernel_rfl) (by kernel_rfl) (fun _ _ _ h => h) (by rfl) ?_ hSw ?_
      rotate_left 1
      · intro W9 hW9
        try dsimp only at hW9
        obtain _ := True.intro
        go_simp
        try with_reducible rfl
      try simp only [List.setIfInBounds_toArray, List.set_cons_zero, List.set_cons_succ]
      refine wpAnyU_takeD (i := 7) (v := ?_) rfl rfl (by kernel_rfl) (by kernel_rfl) (by kernel_rfl) (by kernel_rfl) (fun _ _ _ h => h) (by rfl) ?_ hSw ?_
      rotate_left 1
      · intro W9 hW9
        try dsimp only at hW9
        obtain _ := True.intro
        go_simp
        try with_reducible rfl
      try simp only [List.setIfInBounds_toArray, List.set_cons_zero, List.set_cons_succ]
      obtain ⟨a0, a1, a2, af⟩ := blk3 (w := W4.drew) hrA
      obtain ⟨a3, a4, a5, ag⟩ := blk3 hrA
      refine wpAnyU_one (i := 8) (by kernel_rfl) rfl (fun K hK => ?_)
      go_simp
      have hS8 : BelXX n0 (n0 + 1) W4 (set3 W4.drew n0 (.int .i64 T1.1) (.int .i64 T1.2.1) (.slice B1 T1.2.2.length bc1)) := fun g _ h2 _ => (set3_other h2 _ _ _).trans rfl
      refine hK.out _ _ (fun _ => hS8) ?_
      clear hK K a0 a1 a2 af a3 a4 a5 ag
      try simp only [Act.put, List.setIfInBounds_toArray, List.set_cons_zero, List.set_cons_succ]
      have hq1 : (set3 W4.drew n0 (.int .i64 T1.1) (.int .i64 T1.2.1) (.slice B1 T1.2.2.length bc1)).heap[n0]? = _ := set3_row (w := W4.drew) hrA _ _ _
      have hq2 : (set3 W4.drew n0 (.int .i64 T1.1) (.int .i64 T1.2.1) (.slice B1 T1.2.2.length bc1)).heap[n0 + 1]? = some (.cells #[.int .i64 0, .int .i64 0, .slice none 0 0] 24 (0, 0)) := (set3_other (by omega) _ _ _).trans hrB
      change wpAnyU _ _ _ _ _ _ _ _ _ (set3 W4.drew n0 (.int .i64 T1.1) (.int .i64 T1.2.1) (.slice B1 T1.2.2.length bc1))
      have hret := hfin.out true ht
      generalize set3 W4.drew n0 (.int .i64 T1.1) (.int .i64 T1.2.1) (.slice B1 T1.2.2.length bc1) = W7 at hS8 hq1 hq2 hret ⊢
      obtain ⟨b0, b1, b2, bf⟩ := blk3 hq2
      refine wpAnyU_one (i := 9) (by kernel_rfl) rfl (fun K hK => ?_)
      go_simp
      have hS9 : BelXX n0 (n0 + 1) W4 (set3 W7 (n0 + 1) (.int .i64 T2.1) (.int .i64 T2.2.1) (.slice B2 T2.2.2.length bc2)) := fun g h1 h2 h3 => (set3_other h3 _ _ _).trans (hS8 g h1 h2 h3)
      refine hK.out _ _ (fun _ => hS9) ?_
      clear hK K b0 b1 b2 bf
      try simp only [Act.put, List.setIfInBounds_toArray, List.set_cons_zero, List.set_cons_succ]
      have hq3 : (set3 W7 (n0 + 1) (.int .i64 T2.1) (.int .i64 T2.2.1) (.slice B2 T2.2.2.length bc2)).heap[n0]? = _ := (set3_other (by omega) _ _ _).trans hq1
      have hq4 := set3_row hq2 (.int .i64 T2.1) (.int .i64 T2.2.1) (.slice B2 T2.2.2.length bc2)
      change wpAnyU _ _ _ _ _ _ _ _ _ (set3 W7 (n0 + 1) (.int .i64 T2.1) (.int .i64 T2.2.1) (.slice B2 T2.2.2.length bc2))
      generalize set3 W7 (n0 + 1) (.int .i64 T2.1) (.int .i64 T2.2.1) (.slice B2 T2.2.2.length bc2) = W8 at hS9 hq3 hq4 hret ⊢
      refine wpAnyU_one (i := 10) (by kernel_rfl) rfl (fun K hK => ?_)
      go_simp
      refine hK.out _ _ (fun _ => hS9) ?_
      clear hK K
      try simp only [Act.put, List.setIfInBounds_toArray, List.set_cons_zero, List.set_cons_succ]
      refine wpAnyU_done (by kernel_rfl) ?_ _
      obtain ⟨a0, a1, a2, _⟩ := blk3 hq3
      obtain ⟨b0, b1, b2, _⟩ := blk3 hq4
      go_wp2_with fail
      refine bodyPost_ret (v := .tuple #[.agg #[.int .i64 T1.1, .int .i64 T1.2.1, .slice B1 T1.2.2.length bc1], .agg #[.int .i64 T2.1, .int .i64 T2.2.1, .slice B2 T2.2.2.length bc2], .bool true]) ?_ rfl hret
      simp [results, Try.results31, Try.f31, go_sem, a0, a1, a2, b0, b1, b2]
    · refine wp_region_U (fun W' => BelXX n0 (n0 + 1) W4 W') 11 (by kernel_rfl) ?_
      refine wpAnyU_takeD (i := 0) (v := ?_) rfl rfl (by kernel_rfl) (by kernel_rfl) (by kernel_rfl) (by kernel_rfl) (fun _ _ _ h => h) (by rfl) ?_ hSw ?_
      rotate_left 1
      · intro W9 hW9
        try dsimp only at hW9
        obtain ⟨⟨u0, u1, u2⟩, u3, u4, u5⟩ := HROWS.out W9 hW9
        go_simp
        try with_reducible rfl
      try simp only [List.setIfInBounds_toArray, List.set_cons_zero, List.set_cons_succ]
      refine wpAnyU_takeD (i := 1) (v := ?_) rfl rfl (by kernel_rfl) (by kernel_rfl) (by kernel_rfl) (by kernel_rfl) (fun _ _ _ h => h) (by rfl) ?_ hSw ?_
      rotate_left 1
      · intro W9 hW9
        try dsimp only at hW9
        obtain ⟨⟨u0, u1, u2⟩, u3, u4, u5⟩ := HROWS.out W9 hW9
        go_simp
        try with_reducible rfl
      try simp only [List.setIfInBounds_toArray, List.set_cons_zero, List.set_cons_succ]
      refine wpAnyU_takeD (i := 2) (v := ?_) rfl rfl (by kernel_rfl) (by kernel_rfl) (by kernel_rfl) (by kernel_rfl) (fun _ _ _ h => h) (by rfl) ?_ hSw ?_
      rotate_left 1
      · intro W9 hW9
        try dsimp only at hW9
        obtain _ := True.intro
        go_simp
        try with_reducible rfl
      try simp only [List.setIfInBounds_toArray, List.set_cons_zero, List.set_cons_succ]
      refine wpAnyU_takeD (i := 3) (v := ?_) rfl rfl (by kernel_rfl) (by kernel_rfl) (by kernel_rfl) (by kernel_rfl) (fun _ _ _ h => h) (by rfl) ?_ hSw ?_
      rotate_left 1
      · intro W9 hW9
        try dsimp only at hW9
        obtain _ := True.intro
        go_simp
        try with_reducible rfl
      try simp only [List.setIfInBounds_toArray, List.set_cons_zero, List.set_cons_succ]
      refine wpAnyU_takeD (i := 4) (v := ?_) rfl rfl (by kernel_rfl) (by kernel_rfl) (by kernel_rfl) (by kernel_rfl) (fun _ _ _ h => h) (by rfl) ?_ hSw ?_
      rotate_left 1
      · intro W9 hW9
        try dsimp only at hW9
        obtain _ := True.intro
        go_simp
        try with_reducible rfl
      try simp only [List.setIfInBounds_toArray, List.set_cons_zero, List.set_cons_succ]
      refine wpAnyU_takeN (i := 5) rfl rfl (by kernel_rfl) (by kernel_rfl) (by kernel_rfl) (by kernel_rfl) (fun _ _ _ h => h) (by rfl) hSw ?_
      try simp only [List.setIfInBounds_toArray, List.set_cons_zero, List.set_cons_succ]
      refine wpAnyU_takeN (i := 6) rfl rfl (by kernel_rfl) (by kernel_rfl) (by kernel_rfl) (by kernel_rfl) (fun _ _ _ h => h) (by rfl) hSw ?_
      try simp only [List.setIfInBounds_toArray, List.set_cons_zero, List.set_cons_succ]
      refine wpAnyU_takeD (i := 7) (v := ?_) rfl rfl (by kernel_rfl) (by kernel_rfl) (by kernel_rfl) (by kernel_rfl) (fun _ _ _ h => h) (by rfl) ?_ hSw ?_
      rotate_left 1
      · intro W9 hW9
        try dsimp only at hW9
        obtain _ := True.intro
        go_simp
        try with_reducible rfl
      try simp only [List.setIfInBounds_toArray, List.set_cons_zero, List.set_cons_succ]
      obtain ⟨a0, a1, a2, af⟩ := blk3 (w := W4.drew) hrA
      obtain ⟨a3, a4, a5, ag⟩ := blk3 hrA
      refine wpAnyU_one (i := 8) (by kernel_rfl) rfl (fun K hK => ?_)
      go_simp
      have hS8 : BelXX n0 (n0 + 1) W4 (set3 W4.drew n0 (.int .i64 T1.1) (.int .i64 T1.2.1) (.slice B1 T1.2.2.length bc1)) := fun g _ h2 _ => (set3_other h2 _ _ _).trans rfl
      refine hK.out _ _ (fun _ => hS8) ?_
      clear hK K a0 a1 a2 af a3 a4 a5 ag
      try simp only [Act.put, List.setIfInBounds_toArray, List.set_cons_zero, List.set_cons_succ]
      have hq1 : (set3 W4.drew n0 (.int .i64 T1.1) (.int .i64 T1.2.1) (.slice B1 T1.2.2.length bc1)).heap[n0]? = _ := set3_row (w := W4.drew) hrA _ _ _
      have hq2 : (set3 W4.drew n0 (.int .i64 T1.1) (.int .i64 T1.2.1) (.slice B1 T1.2.2.length bc1)).heap[n0 + 1]? = some (.cells #[.int .i64 0, .int .i64 0, .slice none 0 0] 24 (0, 0)) := (set3_other (by omega) _ _ _).trans hrB
      change wpAnyU _ _ _ _ _ _ _ _ _ (set3 W4.drew n0 (.int .i64 T1.1) (.int .i64 T1.2.1) (.slice B1 T1.2.2.length bc1))
      have hret := hfin.out false ht
      generalize set3 W4.drew n0 (.int .i64 T1.1) (.int .i64 T1.2.1) (.slice B1 T1.2.2.length bc1) = W7 at hS8 hq1 hq2 hret ⊢
      obtain ⟨b0, b1, b2, bf⟩ := blk3 hq2
      refine wpAnyU_one (i := 9) (by kernel_rfl) rfl (fun K hK => ?_)
      go_simp
      have hS9 : BelXX n0 (n0 + 1) W4 (set3 W7 (n0 + 1) (.int .i64 T2.1) (.int .i64 T2.2.1) (.slice B2 T2.2.2.length bc2)) := fun g h1 h2 h3 => (set3_other h3 _ _ _).trans (hS8 g h1 h2 h3)
      refine hK.out _ _ (fun _ => hS9) ?_
      clear hK K b0 b1 b2 bf
      try simp only [Act.put, List.setIfInBounds_toArray, List.set_cons_zero, List.set_cons_succ]
      have hq3 : (set3 W7 (n0 + 1) (.int .i64 T2.1) (.int .i64 T2.2.1) (.slice B2 T2.2.2.length bc2)).heap[n0]? = _ := (set3_other (by omega) _ _ _).trans hq1
      have hq4 := set3_row hq2 (.int .i64 T2.1) (.int .i64 T2.2.1) (.slice B2 T2.2.2.length bc2)
      change wpAnyU _ _ _ _ _ _ _ _ _ (set3 W7 (n0 + 1) (.int .i64 T2.1) (.int .i64 T2.2.1) (.slice B2 T2.2.2.length bc2))
      generalize set3 W7 (n0 + 1) (.int .i64 T2.1) (.int .i64 T2.2.1) (.slice B2 T2.2.2.length bc2) = W8 at hS9 hq3 hq4 hret ⊢
      refine wpAnyU_one (i := 10) (by kernel_rfl) rfl (fun K hK => ?_)
      go_simp
      refine hK.out _ _ (fun _ => hS9) ?_
      clear hK K
      try simp only [Act.put, List.setIfInBounds_toArray, List.set_cons_zero, List.set_cons_succ]
      refine wpAnyU_done (by kernel_rfl) ?_ _
      obtain ⟨a0, a1, a2, _⟩ := blk3 hq3
      obtain ⟨b0, b1, b2, _⟩ := blk3 hq4
      go_wp2_with fail
      refine bodyPost_ret (v := .tuple #[.agg #[.int .i64 T1.1, .int .i64 T1.2.1, .slice B1 T1.2.2.length bc1], .agg #[.int .i64 T2.1, .int .i64 T2.2.1, .slice B2 T2.2.2.length bc2], .bool false]) ?_ rfl hret
      simp [results, Try.results31, Try.f31, go_sem, a0, a1, a2, b0, b1, b2]
  · have hT : treesB l m = false := by
      unfold treesB; rw [decide_eq_false_iff_not]; exact fun h => hok ⟨h.2.1, h.2.2⟩
    obtain ⟨W9, hW9⟩ : ∃ W9, set3 (set3 W0 n0 (.int .i64 0) (.int .i64 0) (.slice none 0 0)) (n0 + 1) (.int .i64 0) (.int .i64 0) (.slice none 0 0) = W9 := ⟨_, rfl⟩
    have hfin : Hid (RetTrees l m (leafN leaf) w (.returned (.tuple #[.agg #[.int .i64 0, .int .i64 0, .slice none 0 0], .agg #[.int .i64 0, .int .i64 0, .slice none 0 0], .bool false])) W9) := by
      refine ⟨zTree, zTree, none, none, 0, 0, by rw [hT]; rfl, ⟨Nat.le_refl _, Nat.zero_le _⟩, ⟨Nat.le_refl _, Nat.zero_le _⟩, SlAt.nil_, SlAt.nil_, ?_, fun h => by rw [hT] at h; cases h⟩
      rw [hn0, ← hW9]
      exact set3_below (set3_below hB0 (Nat.le_refl _) _ _ _) (by omega) _ _ _
    have hf0 : W9.heap[n0]? = some (.cells #[.int .i64 0, .int .i64 0, .slice none 0 0] 24 (0, 0)) := by
      rw [← hW9]; exact (set3_other (by omega) _ _ _).trans (set3_row hr0 _ _ _)
    have hf1 : W9.heap[n0 + 1]? = some (.cells #[.int .i64 0, .int .i64 0, .slice none 0 0] 24 (0, 0)) := by
      rw [← hW9]; exact set3_row ((set3_other (by omega) _ _ _).trans hr1) _ _ _
    have HF0 := Lib.hid (And.intro hf0 hf1)
    have HW9 := Lib.hid hW9
    clear hf0 hf1 hW9 hr0 hr1 h1 h2 hT
    by_cases h100 : 100 < l.length
    · have hb1 : (100 : Int) < l.length := by omega
      clear hok
      go_enter Try.func31, Try.ntmps31
      go_wp2_with fail
      change bodyPost _ _ _ _ _ (set3 (set3 W0 n0 (.int .i64 0) (.int .i64 0) (.slice none 0 0)) (n0 + 1) (.int .i64 0) (.int .i64 0) (.slice none 0 0))
      rw [HW9.out]
      obtain ⟨a0, a1, a2, _⟩ := blk3 HF0.out.1
      obtain ⟨b0, b1, b2, _⟩ := blk3 HF0.out.2
      refine bodyPost_ret (v := .tuple #[.agg #[.int .i64 0, .int .i64 0, .slice none 0 0], .agg #[.int .i64 0, .int .i64 0, .slice none 0 0], .bool false]) ?_ rfl hfin.out
      simp [results, Try.results31, Try.f31, go_sem, a0, a1, a2, b0, b1, b2]
    · have hb1 : ¬ ((100 : Int) < l.length) := by omega
      have hb2 : ((l.length : Int) != (m.length : Int)) = true := by rw [bne_iff_ne]; intro h; exact hok ⟨by omega, by omega⟩
      clear hok
      go_enter Try.func31, Try.ntmps31
      go_wp2_with fail
      change bodyPost _ _ _ _ _ (set3 (set3 W0 n0 (.int .i64 0) (.int .i64 0) (.slice none 0 0)) (n0 + 1) (.int .i64 0) (.int .i64 0) (.slice none 0 0))
      rw [HW9.out]
      obtain ⟨a0, a1, a2, _⟩ := blk3 HF0.out.1
      obtain ⟨b0, b1, b2, _⟩ := blk3 HF0.out.2
      refine bodyPost_ret (v := .tuple #[.agg #[.int .i64 0, .int .i64 0, .slice none 0 0], .agg #[.int .i64 0, .int .i64 0, .slice none 0 0], .bool false]) ?_ rfl hfin.out
      simp [results, Try.results31, Try.f31, go_sem, a0, a1, a2, b0, b1, b2]
end Go.Proofs.Ytjehedfdikdfpaa
namespace Go.Proofs.Ytjehedfdikdfpaa
open Go.RowKit Go.Shelf
attribute [local go_sem] Oper.semAt_some

structure TwoT (N n : Nat) (la lb : List (List Int)) : Prop where
  ca : checkT ((N : Int), (n : Int), la) = 0
  cb : checkT ((N : Int), (n : Int), lb) = 0
  ta : TOk N n la
  tb : TOk N n lb
theorem TwoT.swap {N n : Nat} {la lb : List (List Int)} (h : TwoT N n la lb) : TwoT N n lb la := ⟨h.cb, h.ca, h.tb, h.ta⟩
theorem TwoT.self {N n : Nat} {la lb : List (List Int)} (h : TwoT N n la lb) : TwoT N n la la := ⟨h.ca, h.ca, h.ta, h.ta⟩
theorem TwoT.err {N n : Nat} {la lb : List (List Int)} (h : TwoT N n la lb) : difErr ((N : Int), (n : Int), la) ((N : Int), (n : Int), lb) = 0 := by
  unfold difErr; rw [if_neg (by rw [h.ca]; simp), if_neg (by rw [h.cb]; simp), if_neg (by simp)]
theorem TOk.rows {N n : Nat} {l : List (List Int)} (h : TOk N n l) : ∀ row ∈ l, row.length ≤ 1000000 := fun row hr => by
  obtain ⟨k, hk, rfl⟩ := List.mem_iff_getElem.1 hr
  have := (h.at_ k hk)
  omega
theorem leafN_range {leaf : Int} (h : 0 ≤ leaf ∧ leaf < 256) : 1 ≤ leafN leaf ∧ leafN leaf ≤ 12 := by unfold leafN; omega
theorem trees_two {l m : List Sec} {n : Nat} (hn : 1 ≤ n ∧ n ≤ 12) (h : treesB l m = true) : ∃ la lb, buildT l (n : Int) = ((l.length : Int), (n : Int), la) ∧ buildT m (n : Int) = ((l.length : Int), (n : Int), lb) ∧ TwoT l.length n la lb ∧ l.length ≤ 100 ∧ 1 ≤ l.length := by
  unfold treesB at h
  obtain ⟨h1, h2, h3⟩ := of_decide_eq_true h
  obtain ⟨_, b1, c1⟩ := build_ok (l := l) (m := n) ⟨h1, by omega⟩ ⟨hn.1, by omega⟩
  obtain ⟨_, b2, c2⟩ := build_ok (l := m) (m := n) ⟨by omega, by omega⟩ ⟨hn.1, by omega⟩
  rw [← h3] at b2 c2
  obtain ⟨n', m', e1, e2, tk⟩ := checkT_TOk c1
  obtain ⟨n'', m'', e3, e4, tk2⟩ := checkT_TOk c2
  obtain rfl : n' = l.length := by omega
  obtain rfl : m' = n := by omega
  obtain rfl : n'' = l.length := by omega
  obtain rfl : m'' = m' := by omega
  exact ⟨_, _, b1, b2, ⟨c1, c2, tk, tk2⟩, h2, h1⟩
theorem sym_law {N n : Nat} {la lb : List (List Int)} (h : TwoT N n la lb) : difT ((N : Int), (n : Int), la) ((N : Int), (n : Int), lb) = difT ((N : Int), (n : Int), lb) ((N : Int), (n : Int), la) ∧ sentT ((N : Int), (n : Int), la) ((N : Int), (n : Int), lb) = sentT ((N : Int), (n : Int), lb) ((N : Int), (n : Int), la) ∧ sentT ((N : Int), (n : Int), la) ((N : Int), (n : Int), la) = 1 := by
  have h2 := Two.of h.ta h.tb
  refine ⟨?_, ?_, ?_⟩
  · unfold difT
    rw [if_pos h.err, if_pos h.swap.err, difE_comm h2]
  · unfold sentT
    rw [if_pos h.err, if_pos h.swap.err]
    have := sent_comm h2
    simp only
    rw [this]
  · unfold sentT
    rw [if_pos h.self.err]
    simp only
    rw [sentN_self]; rfl
set_option maxHeartbeats 8000000 in
set_option maxRecDepth 100000 in
theorem symmetric44_any (A A2 : Option Addr) (c c2 : Nat) (l m : List Sec) (leaf : Int) (w : World) (h1 : SlAt encSec w (Bl w.heap.size) A l) (h2 : SlAt encSec w (Bl w.heap.size) A2 m) (hc : l.length ≤ c ∧ c ≤ maxLen) (hc2 : m.length ≤ c2 ∧ c2 ≤ maxLen) (hlf : 0 ≤ leaf ∧ leaf < 256) :
    Calls Try.prog 9 #[.slice A l.length c, .slice A2 m.length c2, .int .u8 leaf] w (LawRet w) := by
  obtain ⟨n0, hn0⟩ : ∃ n0, w.heap.size = n0 := ⟨_, rfl⟩
  have HTR := Lib.hid (trees44_any A A2 c c2 l.length m.length l m leaf w rfl rfl h1 h2 hc hc2 hlf)
  have HLR := Lib.hid (leafN_range hlf)
  clear h1 h2 hc hc2
  go_enter Try.func9, Try.ntmps9
  go_wp2_with fail
  refine HTR.out.mono ?_
  rintro e w1 ⟨t1, t2, B1, B2, b1, b2, rfl, ⟨x1, x2⟩, ⟨y1, y2⟩, x3, y3, hb1, htt⟩
  clear HTR
  obtain ⟨n7, hn7⟩ : ∃ n7, w1.heap.size = n7 := ⟨_, rfl⟩
  obtain ⟨W2, hW2⟩ : ∃ W2, (w1.alloc (.cells #[.int .i64 t1.1, .int .i64 t1.2.1, .slice B1 t1.2.2.length b1] 24)).alloc (.cells #[.int .i64 t2.1, .int .i64 t2.2.1, .slice B2 t2.2.2.length b2] 24) = W2 := ⟨_, rfl⟩
  have hz2 : W2.heap.size = n7 + 2 := by rw [← hW2, ← hn7]; simp
  have hb2 : Below n7 w1 W2 := by rw [← hW2, ← hn7]; exact ext_alloc (ext_alloc (Below.refl _ _))
  have hr7 : W2.heap[n7]? = some (.cells #[.int .i64 t1.1, .int .i64 t1.2.1, .slice B1 t1.2.2.length b1] 24 (0, 0)) := by
    rw [← hW2, ← hn7]; exact (Below.heap_alloc _ _ _ (by simp)).trans (heap_alloc_new _ _)
  have hr8 : W2.heap[n7 + 1]? = some (.cells #[.int .i64 t2.1, .int .i64 t2.2.1, .slice B2 t2.2.2.length b2] 24 (0, 0)) := by
    rw [← hW2, ← hn7]; exact heap_new2 _ _ _
  have hbw2 : Below n0 w W2 := by rw [hn0] at hb1; exact hb1.trans (hb2.mono (by have := hb1.size; omega))
  have HN0 := Lib.hid hn0
  go_upto_region 2 with (fail)
  obtain ⟨ok, hok⟩ : ∃ ok, treesB l m = ok := ⟨_, rfl⟩
  rw [hok] at htt ⊢
  have HOK := Lib.hid hok
  have HN7 := Lib.hid hn7
  clear hW2 hok hn7
  cases ok with
  | false =>
    go_wp2_with fail
    have hbf : Below w.heap.size w W2 := by rw [HN0.out]; exact hbw2
    refine (awake44_any W2).mono ?_
    rintro e wz ⟨rfl, hbz⟩
    go_wp2_with fail
    go_ret
    exact ⟨by first | trivial | rfl | simp, hbf.trans (hbz.mono (hbf).size)⟩
  | true =>
    obtain ⟨q1, q2⟩ := htt rfl
    obtain ⟨la, lb, e1, e2, two, h100, hpos⟩ := trees_two HLR.out HOK.out
    have q1' := q1.trans e1
    have q2' := q2.trans e2
    subst q1' q2'
    obtain ⟨nn, hnn⟩ : ∃ nn, leafN leaf = nn := ⟨_, rfl⟩
    clear q1 q2 e1 e2 htt
    rw [hnn] at two hr7 hr8 ⊢
    simp only at x1 x3 hr7 y1 y3 hr8 ⊢
    have HTWO := Lib.hid two
    have hnn12 : 1 ≤ nn ∧ nn ≤ 12 := by rw [← hnn]; exact HLR.out
    have HW : Hid (∀ W, Below (n7 + 2) W2 W → (W.heap[n7]? = some (.cells #[.int .i64 (l.length : Int), .int .i64 (nn : Int), .slice B1 la.length b1] 24 (0, 0)) ∧ W.heap[n7 + 1]? = some (.cells #[.int .i64 (l.length : Int), .int .i64 (nn : Int), .slice B2 lb.length b2] 24 (0, 0))) ∧ SlAt (encSl encU64) W (Bl W.heap.size) B1 la ∧ SlAt (encSl encU64) W (Bl W.heap.size) B2 lb ∧ Below w.heap.size w W) := fun W hb => by
      have hz := hb.size
      have hz1 := hb2.size
      have hn7e := HN7.out
      exact ⟨⟨(hb.block n7 (by omega)).trans hr7, (hb.block (n7 + 1) (by omega)).trans hr8⟩, (x3.blk (fun g hg => (hb.block g (by have := hg.2; omega)).trans (hb2.block g (by have := hg.2; omega)))).more (fun g hg => by have := hg.2; show g < W.heap.size; omega), (y3.blk (fun g hg => (hb.block g (by have := hg.2; omega)).trans (hb2.block g (by have := hg.2; omega)))).more (fun g hg => by have := hg.2; show g < W.heap.size; omega), by rw [HN0.out]; exact hbw2.trans (hb.mono (by have := hbw2.size; omega))⟩
    have hIN : I64 (l.length : Int) ∧ I64 (nn : Int) := ⟨by unfold I64; omega, by unfold I64; omega⟩
    have hlla : la.length ≤ 13 := HTWO.out.ta.len
    have hllb : lb.length ≤ 13 := HTWO.out.tb.len
    have HRN1 := Lib.hid (fun W (hb : Below (n7 + 2) W2 W) => run_any (l.length : Int) (nn : Int) (l.length : Int) (nn : Int) B1 B2 b1 b2 la.length lb.length la lb W rfl rfl (HW.out W hb).2.1 (HW.out W hb).2.2.1 (by omega) (by omega) ⟨x1, x2⟩ ⟨y1, y2⟩ hIN hIN HTWO.out.ta.rows)
    have HRN2 := Lib.hid (fun W (hb : Below (n7 + 2) W2 W) => run_any (l.length : Int) (nn : Int) (l.length : Int) (nn : Int) B2 B1 b2 b1 lb.length la.length lb la W rfl rfl (HW.out W hb).2.2.1 (HW.out W hb).2.1 (by omega) (by omega) ⟨y1, y2⟩ ⟨x1, x2⟩ hIN hIN HTWO.out.tb.rows)
    have HRN3 := Lib.hid (fun W (hb : Below (n7 + 2) W2 W) => run_any (l.length : Int) (nn : Int) (l.length : Int) (nn : Int) B1 B1 b1 b1 la.length la.length la la W rfl rfl (HW.out W hb).2.1 (HW.out W hb).2.1 (by omega) (by omega) ⟨x1, x2⟩ ⟨x1, x2⟩ hIN hIN HTWO.out.ta.rows)
    obtain ⟨s1, s2, s3⟩ := sym_law HTWO.out
    rw [HTWO.out.err, s1, s2] at HRN1
    rw [HTWO.out.swap.err] at HRN2
    rw [HTWO.out.self.err, s3] at HRN3
    obtain ⟨X, hX⟩ : ∃ X, difT ((l.length : Int), (nn : Int), lb) ((l.length : Int), (nn : Int), la) = X := ⟨_, rfl⟩
    obtain ⟨sn, hsn⟩ : ∃ sn, sentT ((l.length : Int), (nn : Int), lb) ((l.length : Int), (nn : Int), la) = sn := ⟨_, rfl⟩
    obtain ⟨Y, hY⟩ : ∃ Y, difT ((l.length : Int), (nn : Int), la) ((l.length : Int), (nn : Int), la) = Y := ⟨_, rfl⟩
    rw [hX, hsn] at HRN1 HRN2
    rw [hY] at HRN3
    clear s1 s2 s3 hX hsn hY x3 y3 hb2 hbw2 hr7 hr8 hb1
    have hB2 := Below.refl (n7 + 2) W2
    obtain ⟨⟨p0, p1, p2, _⟩, z0, z1, z2, _⟩ := And.intro (blk3 (HW.out W2 hB2).1.1) (blk3 (HW.out W2 hB2).1.2)
    have HRA := Lib.hid (HRN1.out W2 hB2)
    go_wp2_with fail
    refine HRA.out.mono ?_
    rintro e w3 ⟨D, dc, rfl, g1, g2, g3, hb3⟩
    have hb23 : Below (n7 + 2) W2 w3 := hb3.mono (by omega)
    clear p0 p1 p2 z0 z1 z2 HRA HRN1
    have HD3 := Lib.hid g3
    obtain ⟨⟨p0, p1, p2, _⟩, z0, z1, z2, _⟩ := And.intro (blk3 (HW.out w3 hb23).1.1) (blk3 (HW.out w3 hb23).1.2)
    have HRA := Lib.hid (HRN2.out w3 hb23)
    clear g3
    go_wp2_with fail
    refine HRA.out.mono ?_
    rintro e w4 ⟨D4, dc4, rfl, g4, g5, g6, hb4⟩
    have hz23 := hb23.size
    have hb24 : Below (n7 + 2) W2 w4 := hb23.trans (hb4.mono (by omega))
    clear p0 p1 p2 z0 z1 z2 HRA HRN2
    have HD4 := Lib.hid g6
    have HB34 := Lib.hid hb4
    obtain ⟨p0, p1, p2, _⟩ := blk3 (HW.out w4 hb24).1.1
    have HRA := Lib.hid (HRN3.out w4 hb24)
    clear g6
    go_wp2_with fail
    refine HRA.out.mono ?_
    rintro e w5 ⟨D5, dc5, rfl, g7, g8, _, hb5⟩
    have hz24 := hb24.size
    have hb25 : Below (n7 + 2) W2 w5 := hb24.trans (hb5.mono (by omega))
    have hz34 := HB34.out.size
    have HEX := Lib.hid (eqExts_any D D4 dc dc4 X.length X.length (Bl w3.heap.size) (Bl w4.heap.size) X X true w5 rfl rfl (by simp) (HD3.out.blk (fun g hg => (hb5.block g (by have : g < w3.heap.size := hg; omega)).trans (HB34.out.block g hg))) (HD4.out.blk (fun g hg => hb5.block g hg)) (by unfold maxLen at g2; omega) (by unfold maxLen at g2; omega))
    have hss : (sn == sn) = true := by simp
    clear p0 p1 p2 HRA HRN3 hb5 hb4
    go_wp2_with fail
    refine HEX.out.mono ?_
    rintro e w7 ⟨rfl, hd7⟩
    have hb27 : Below (n7 + 2) W2 w7 := hb25.trans (hd7.below _)
    go_wp2_with fail
    refine (awake44_any w7).mono ?_
    rintro e wz ⟨rfl, hbz⟩
    go_wp2_with fail
    go_ret
    exact ⟨by first | trivial | rfl | simp, ((HW.out w7 hb27).2.2.2).trans (hbz.mono (((HW.out w7 hb27).2.2.2)).size)⟩
end Go.Proofs.Ytjehedfdikdfpaa
