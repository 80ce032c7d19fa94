/-
  The reference's Build: the walk.; Plain words: the shape of a tree's levels, as the code and the reference test it.; Plain words: what a tree that is correct looks like; proofs, updates. No program in sight.; The plain law of the sweep: sorted ends of extents, swept, give the runs of the sectors that satisfy a condition. No program in sight.; Plain words: the leaves that two trees differ in. No program in sight.; Plain words: the nodes whose digests are others in a body. No program in sight.; Plain words: the numbers in extents. No program in sight.; Plain words: the error of lists of extents. No program in sight.; Plain words: the first elements of two lists, one more.; slices.Chunk over sectors, and the code's Build.
-/
import Derived.Test.YtjehedfdikdfpaaZL01
import Derived.Test.YtjehedfdikdfpaaZL02
set_option linter.unusedVariables false
set_option linter.unusedSimpArgs false
set_option linter.unusedSectionVars false
set_option linter.unnecessarySimpa false
namespace Go.Proofs.Ytjehedfdikdfpaa
open Go.RowKit Go.Shelf
attribute [local go_sem] Oper.semAt_some

/-- a tree and a number -/
def TreeRetE (t : Tr) (n : Int) (lo : Nat) (w : World) (e : Ending) (w' : World) : Prop :=
  ∃ A c, e = .returned (.tuple #[.agg #[.int .i64 t.1, .int .i64 t.2.1, .slice A t.2.2.length c], .int .i64 n]) ∧ t.2.2.length ≤ c ∧ c ≤ maxLen ∧ SlAt (encSl encU64) w' (Nw lo w'.heap.size) A t.2.2 ∧ Below w.heap.size w w'
theorem limN_cases (a b : Int) : (limN a b = 2 ∧ (a < 1 ∨ 4096 < a)) ∨ (limN a b = 1 ∧ 1 ≤ a ∧ a ≤ 4096 ∧ (b < 1 ∨ 4096 < b)) ∨ (limN a b = 0 ∧ 1 ≤ a ∧ a ≤ 4096 ∧ 1 ≤ b ∧ b ≤ 4096) := by
  unfold limN
  by_cases h1 : a < 1 ∨ 4096 < a
  · rw [if_pos h1]; exact .inl ⟨rfl, h1⟩
  · rw [if_neg h1]
    by_cases h2 : b < 1 ∨ 4096 < b
    · rw [if_pos h2]; exact .inr (.inl ⟨rfl, by omega, by omega, h2⟩)
    · rw [if_neg h2]; exact .inr (.inr ⟨rfl, by omega, by omega, by omega, by omega⟩)
theorem buildT_err {l : List Sec} {m : Int} (h : limN l.length m ≠ 0) : buildT l m = zTree := by unfold buildT buildErr; rw [if_neg h]
theorem buildT_ok {l : List Sec} {m : Int} (h : limN l.length m = 0) : buildT l m = ((l.length : Int), m, levels (digests l m.toNat)) := by unfold buildT buildErr; rw [if_pos h]
def digTo (l : List Sec) (m k : Nat) : List Int := (List.range k).map fun i => digS (leafAt l m i)
theorem digTo_succ (l : List Sec) (m k : Nat) : digTo l m (k + 1) = digTo l m k ++ [digS (leafAt l m k)] := by simp [digTo, List.range_succ]
theorem digTo_len (l : List Sec) (m k : Nat) : (digTo l m k).length = k := by simp [digTo]
theorem leavesN_le {n m : Nat} (hm : 1 ≤ m) : leavesN n m ≤ n := by
  unfold leavesN
  refine Nat.le_of_lt_succ ((Nat.div_lt_iff_lt_mul (by omega)).2 ?_)
  have : n.succ * 1 ≤ n.succ * m := Nat.mul_le_mul_left _ hm
  have h2 : n.succ * m = n * m + m := Nat.succ_mul n m
  have h3 : n * 1 ≤ n * m := Nat.mul_le_mul_left _ hm
  omega
theorem leavesN_pos {n m : Nat} (hn : 1 ≤ n) (hm : 1 ≤ m) : 1 ≤ leavesN n m := (Nat.le_div_iff_mul_le (by omega)).2 (by omega)
def set3 (W : World) (b : Nat) (u v t : Value) : World := ((W.setCell ⟨b, 0, none⟩ u).setCell ⟨b, 1, none⟩ v).setCell ⟨b, 2, none⟩ t
theorem treeRetE_end {w W : World} {b lo : Nat} {c0 c1 c2 : Value} (hrow : W.heap[b]? = some (.cells #[c0, c1, c2] 24 (0, 0))) (hb : w.heap.size ≤ b) (hB : Below w.heap.size w W) (t : Tr) (A : Option Addr) (c : Nat) (n : Int) (h1 : t.2.2.length ≤ c) (h2 : c ≤ maxLen)
    (hs : SlAt (encSl encU64) W (fun g => Nw lo W.heap.size g ∧ g ≠ b) A t.2.2) :
    (set3 W b (.int .i64 t.1) (.int .i64 t.2.1) (.slice A t.2.2.length c)).heap[b]? = some (.cells #[.int .i64 t.1, .int .i64 t.2.1, .slice A t.2.2.length c] 24 (0, 0)) ∧
    TreeRetE t n lo w (.returned (.tuple #[.agg #[.int .i64 t.1, .int .i64 t.2.1, .slice A t.2.2.length c], .int .i64 n])) (set3 W b (.int .i64 t.1) (.int .i64 t.2.1) (.slice A t.2.2.length c)) := by
  refine ⟨blk3_all hrow _ _ _, A, c, rfl, h1, h2, (hs.blk (fun g hg => blk3_other hg.2 _ _ _)).more (fun g hg => ?_), ((hB.setCell (p := ⟨b, 0, none⟩) hb _).setCell (p := ⟨b, 1, none⟩) hb _).setCell (p := ⟨b, 2, none⟩) hb _⟩
  have e : (set3 W b (.int .i64 t.1) (.int .i64 t.2.1) (.slice A t.2.2.length c)).heap.size = W.heap.size := by simp [set3, World.setCell]
  rw [e]; exact hg.1
set_option maxHeartbeats 4000000 in
theorem refBuild_any (A : Option Addr) (c n : Nat) (l : List Sec) (leaf : Int) (w : World) (hn : l.length = n) (hc : n ≤ c ∧ c ≤ maxLen) (h1 : SlAt encSec w (Bl w.heap.size) A l) (hl : n ≤ 100000) (hlf : I64 leaf) :
    Calls Try.prog 34 #[.slice A n c, .int .i64 leaf] w (TreeRetE (buildT l leaf) (buildErr l leaf) w.heap.size w) := by
  subst hn
  unfold I64 at hlf
  obtain ⟨hlf1, hlf2⟩ := hlf
  have hl2 : ((l.length : Nat) : Int) ≤ 100000 := by omega
  have HL := Lib.hid (limN_cases l.length leaf)
  obtain ⟨W0, hW0⟩ : ∃ W0, w.alloc (.cells #[.int .i64 0, .int .i64 0, .slice none 0 0] 24) = W0 := ⟨_, rfl⟩
  have hrow0 : W0.heap[w.heap.size]? = some (.cells #[.int .i64 0, .int .i64 0, .slice none 0 0] 24 (0, 0)) := by rw [← hW0]; exact heap_alloc_new _ _
  have hs0 : W0.heap.size = w.heap.size + 1 := by rw [← hW0]; simp
  have hB0 : Below w.heap.size w W0 := by rw [← hW0]; exact ext_alloc (Below.refl _ _)
  have HS0 := Lib.hid hs0; clear hs0
  obtain ⟨r0, r1, r2, rf⟩ := blk3 hrow0
  have H1 : Hid (∀ w', Below W0.heap.size W0 w' → SlAt encSec w' (Bl w.heap.size) A l) := fun w' hb => (h1.below hB0).below (hb.mono hB0.size)
  clear h1
  go_enter Try.func34, Try.ntmps34
  rcases HL.out with ⟨g1, g2⟩ | ⟨g1, g2, g3, g4⟩ | ⟨g1, g2, g3, g4, g5⟩
  · have HT : Hid (buildT l leaf = zTree) := buildT_err (by rw [g1]; decide)
    have HE : Hid (buildErr l leaf = 2) := g1
    rw [HT.out, HE.out]
    clear g1 HL
    by_cases g3 : ((l.length : Nat) : Int) < 1
    · go_wp2_with fail
      have hend := treeRetE_end (w := w) (lo := w.heap.size) hrow0 (Nat.le_refl w.heap.size) hB0 zTree none 0 2 (by simp [zTree]) (by decide) SlAt.nil_
      obtain ⟨hz, hret⟩ := hend
      change bodyPost _ _ _ _ _ (set3 W0 w.heap.size (.int .i64 (zTree : Tr).1) (.int .i64 (zTree : Tr).2.1) (.slice none (zTree : Tr).2.2.length 0))
      generalize set3 W0 w.heap.size (.int .i64 (zTree : Tr).1) (.int .i64 (zTree : Tr).2.1) (.slice none (zTree : Tr).2.2.length 0) = W3 at hz hret ⊢
      obtain ⟨z0, z1, z2, _⟩ := blk3 hz
      refine bodyPost_ret (v := .tuple #[.agg #[.int .i64 (zTree : Tr).1, .int .i64 (zTree : Tr).2.1, .slice none (zTree : Tr).2.2.length 0], .int .i64 2]) ?_ rfl ?_
      · simp [results, Try.results34, Try.f34, go_sem, z0, z1, z2, zTree]
      exact hret
    · go_wp2_with fail
      have hend := treeRetE_end (w := w) (lo := w.heap.size) hrow0 (Nat.le_refl w.heap.size) hB0 zTree none 0 2 (by simp [zTree]) (by decide) SlAt.nil_
      obtain ⟨hz, hret⟩ := hend
      change bodyPost _ _ _ _ _ (set3 W0 w.heap.size (.int .i64 (zTree : Tr).1) (.int .i64 (zTree : Tr).2.1) (.slice none (zTree : Tr).2.2.length 0))
      generalize set3 W0 w.heap.size (.int .i64 (zTree : Tr).1) (.int .i64 (zTree : Tr).2.1) (.slice none (zTree : Tr).2.2.length 0) = W3 at hz hret ⊢
      obtain ⟨z0, z1, z2, _⟩ := blk3 hz
      refine bodyPost_ret (v := .tuple #[.agg #[.int .i64 (zTree : Tr).1, .int .i64 (zTree : Tr).2.1, .slice none (zTree : Tr).2.2.length 0], .int .i64 2]) ?_ rfl ?_
      · simp [results, Try.results34, Try.f34, go_sem, z0, z1, z2, zTree]
      exact hret
  · have HT : Hid (buildT l leaf = zTree) := buildT_err (by rw [g1]; decide)
    have HE : Hid (buildErr l leaf = 1) := g1
    rw [HT.out, HE.out]
    clear g1 HL
    by_cases g5 : leaf < 1
    · go_wp2_with fail
      have hend := treeRetE_end (w := w) (lo := w.heap.size) hrow0 (Nat.le_refl w.heap.size) hB0 zTree none 0 1 (by simp [zTree]) (by decide) SlAt.nil_
      obtain ⟨hz, hret⟩ := hend
      change bodyPost _ _ _ _ _ (set3 W0 w.heap.size (.int .i64 (zTree : Tr).1) (.int .i64 (zTree : Tr).2.1) (.slice none (zTree : Tr).2.2.length 0))
      generalize set3 W0 w.heap.size (.int .i64 (zTree : Tr).1) (.int .i64 (zTree : Tr).2.1) (.slice none (zTree : Tr).2.2.length 0) = W3 at hz hret ⊢
      obtain ⟨z0, z1, z2, _⟩ := blk3 hz
      refine bodyPost_ret (v := .tuple #[.agg #[.int .i64 (zTree : Tr).1, .int .i64 (zTree : Tr).2.1, .slice none (zTree : Tr).2.2.length 0], .int .i64 1]) ?_ rfl ?_
      · simp [results, Try.results34, Try.f34, go_sem, z0, z1, z2, zTree]
      exact hret
    · go_wp2_with fail
      have hend := treeRetE_end (w := w) (lo := w.heap.size) hrow0 (Nat.le_refl w.heap.size) hB0 zTree none 0 1 (by simp [zTree]) (by decide) SlAt.nil_
      obtain ⟨hz, hret⟩ := hend
      change bodyPost _ _ _ _ _ (set3 W0 w.heap.size (.int .i64 (zTree : Tr).1) (.int .i64 (zTree : Tr).2.1) (.slice none (zTree : Tr).2.2.length 0))
      generalize set3 W0 w.heap.size (.int .i64 (zTree : Tr).1) (.int .i64 (zTree : Tr).2.1) (.slice none (zTree : Tr).2.2.length 0) = W3 at hz hret ⊢
      obtain ⟨z0, z1, z2, _⟩ := blk3 hz
      refine bodyPost_ret (v := .tuple #[.agg #[.int .i64 (zTree : Tr).1, .int .i64 (zTree : Tr).2.1, .slice none (zTree : Tr).2.2.length 0], .int .i64 1]) ?_ rfl ?_
      · simp [results, Try.results34, Try.f34, go_sem, z0, z1, z2, zTree]
      exact hret
  · obtain ⟨m, rfl⟩ : ∃ m : Nat, leaf = m := ⟨leaf.toNat, by omega⟩
    have HT : Hid (buildT l (m : Int) = ((l.length : Int), (m : Int), levels (digests l m))) := buildT_ok g1
    have HE : Hid (buildErr l (m : Int) = 0) := g1
    rw [HT.out, HE.out]
    clear g1 HL
    have hm1 : 1 ≤ m := by omega
    have hm2 : m ≤ 4096 := by omega
    have hn1 : 1 ≤ l.length := by omega
    have hn2 : l.length ≤ 4096 := by omega
    have HLP := Lib.hid (leavesN_pos hn1 hm1)
    have HLL := Lib.hid (leavesN_le (n := l.length) hm1)
    go_wp2_with fail
    go_loopw [6, 7] (fun v i wr => ∃ (k : Nat) (B : Option Addr) (vc : Nat) (out : List Int), k ≤ leavesN l.length m ∧ i = .int .i64 (k : Nat) ∧ v = .slice B out.length vc ∧ Below W0.heap.size W0 wr ∧ Hid (out = digTo l m k) ∧ Hid (OwnW encU64 wr W0.heap.size W0.heap.size 77 (.slice B out.length vc) out)) (fun _ i _ => leavesN l.length m - (intOf i).toNat)
    case atStart => exact ⟨0, none, 0, [], by omega, rfl, rfl, Below.refl _ _, rfl, OwnW.nil_⟩
    case round =>
      obtain ⟨wo, rfl⟩ : ∃ wo : World, wo = wr := ⟨_, rfl⟩
      obtain ⟨k, B, vc, out, hk, rfl, rfl, hB, hout, hown⟩ := hrel
      have HLV := Lib.hid (refLeaves_any l.length m wo ⟨hn1, hn2⟩ ⟨hm1, hm2⟩)
      obtain ⟨N, hN⟩ : ∃ N, leavesN l.length m = N := ⟨_, rfl⟩
      go_wp2_with fail
      refine HLV.out.mono ?_
      rintro e wo ⟨rfl, rfl⟩
      have hk2 := hk
      rw [hN] at hk2 ⊢
      have HN := Lib.hid hN; clear hN
      have hNl : N ≤ l.length := by rw [← HN.out]; exact HLL.out
      by_cases hlt : k < N
      · have hki : (k : Int) < N := by omega
        have hB1 := hB
        have hil : k * m < l.length := leaf_lt hm1 (by rw [HN.out]; exact hlt)
        have hsz1 := hB.size
        have HSC := Lib.hid (refSectors11_any A c l.length l m k wo rfl hil ((H1.out _ hB).more (fun b hb => Nat.lt_of_lt_of_le hb (Nat.le_trans hB0.size hB.size))) hc hl (by omega))
        go_wp2_with fail
        refine HSC.out.mono ?_
        rintro e wo ⟨⟨A2, c2, rfl, q2⟩, rfl⟩
        have hll : (leafAt l m k).length ≤ 100000 := by rw [leafAt_len]; omega
        obtain ⟨d, hd⟩ : ∃ d, digS (leafAt l m k) = d := ⟨_, rfl⟩
        have HD := Lib.hid (refSectors_dig A2 c2 _ (leafAt l m k) d wo rfl hd q2 hll)
        have HDR : Hid (U64 d) := by rw [← hd]; exact dig_range _
        have HDE := Lib.hid hd; clear hd q2 hll HSC
        go_wp2_with fail
        refine HD.out.mono ?_
        rintro e w3 ⟨rfl, hb3⟩
        have hs3 := hb3.size
        have hol : Hid (out.length = k) := by rw [Hid, hout.out]; exact digTo_len l m k
        have HO1 := Lib.hid (Own.alloc (OwnW.below hown.out hb3) (fun _ h => h.1.2) (.cells #[.int .u64 d] 77))
        have HRD : Hid (encU64.rd (w3.alloc (.cells #[.int .u64 d] 77)) (fun b => Nw W0.heap.size w3.heap.size b ∧ (Value.slice B out.length vc).ownBlock ≠ some b) [.int .u64 d] d) := ⟨rfl, HDR.out⟩
        go_wp2_with (at_builtin; refine Hid.out ?_)
        change wpList _ _ _ _ _ _
        refine wpList_app1 (E := encU64) tyU64s rfl _ _ rfl rfl HO1.out d _ rfl HRD.out (heap_alloc_new _ _) (fun _ h => by simp; have := h.1.2; omega) (by simp; omega) (by have := hol.out; unfold maxLen; omega) (by have := hol.out; omega) ?_
        intro A' c' w5 hown5 hg5 hat5
        have hlt1 : ∀ g, (Value.slice B out.length vc).ownBlock = some g → g < w3.heap.size := fun g hg => Nat.lt_of_lt_of_le (hown.out.lt g hg).2 hs3
        have hok5 := Lib.hid (OwnW.app (hown5.more (S' := fun b => Nw W0.heap.size (w3.alloc (.cells #[.int .u64 d] 77)).heap.size b ∧ (Value.slice B out.length vc).ownBlock ≠ some b) (fun b hb => ⟨hb.1.mono (Nat.le_refl _) (by simp), hb.2⟩) (OwnW_new hown5 hat5 hlt1 (by simp))) hg5 hat5)
        have hB5 := Lib.hid ((ext_alloc (o := .cells #[.int .u64 d] 77) (hB.trans (hb3.mono hsz1))).grown hg5 (by simp; omega) (fun g h => (hown.out.lt g h).1))
        clear hown5 hg5 hat5 hlt1 HO1 HRD HD
        go_wp2
        go_roundw
        case rel => exact ⟨k + 1, A', c', out ++ [d], by rw [HN.out]; omega, by go_num, by simp, hB5.out, by rw [Hid, digTo_succ, ← hout.out, HDE.out], by have := hok5.out; simpa [Hid] using this⟩
        case measure => simp only [intOf]; rw [HN.out]; omega
      · have hkk : k = N := by omega
        subst hkk
        have hki : ¬ ((k : Int) < k) := by omega
        obtain ⟨_, p1, p2, p3⟩ := hown.out.parts
        have hol : Hid (out.length = k) := by rw [Hid, hout.out]; exact digTo_len l m k
        have hs1 := hB.size
        have hdg : Hid (out = digests l m) := by rw [Hid, hout.out, ← HN.out]; rfl
        have HT := Lib.hid (refTree_any B vc out.length W0.heap.size (l.length : Int) (m : Int) out wo rfl (by have := HLP.out; have := HN.out; have := hol.out; omega) hs1 ⟨p1, p2⟩ p3 (by have := HLL.out; have := HN.out; have := hol.out; omega))
        clear p3
        go_wp2_with fail
        refine HT.out.mono ?_
        rintro e w4 ⟨A4, c4, rfl, t1, t2, t3, t4⟩
        have hrow4 : w4.heap[w.heap.size]? = some (.cells #[.int .i64 0, .int .i64 0, .slice none 0 0] 24 (0, 0)) := (t4.block _ (by have := HS0.out; omega)).trans ((hB.block _ (by have := HS0.out; omega)).trans hrow0)
        obtain ⟨u0, u1, u2, uf⟩ := blk3 hrow4
        have hB4 : Below w.heap.size w w4 := hB0.trans ((hB.trans (t4.mono hs1)).mono hB0.size)
        have T3 := Lib.hid (t3.more (S' := fun g => Nw w.heap.size w4.heap.size g ∧ g ≠ w.heap.size) (fun g hg => ⟨hg.mono hB0.size (Nat.le_refl _), by have := hg.1; have := HS0.out; omega⟩))
        clear t3 t4 HT
        go_wp2_with fail
        rw [← hdg.out]
        have hend := treeRetE_end (w := w) (lo := w.heap.size) hrow4 (Nat.le_refl w.heap.size) hB4 ((l.length : Int), (m : Int), levels out) A4 c4 0 t1 t2 T3.out
        obtain ⟨hz, hret⟩ := hend
        change bodyPost _ _ _ _ _ (set3 w4 w.heap.size (.int .i64 (((l.length : Int), (m : Int), levels out) : Tr).1) (.int .i64 (((l.length : Int), (m : Int), levels out) : Tr).2.1) (.slice A4 (((l.length : Int), (m : Int), levels out) : Tr).2.2.length c4))
        generalize set3 w4 w.heap.size (.int .i64 (((l.length : Int), (m : Int), levels out) : Tr).1) (.int .i64 (((l.length : Int), (m : Int), levels out) : Tr).2.1) (.slice A4 (((l.length : Int), (m : Int), levels out) : Tr).2.2.length c4) = W3 at hz hret ⊢
        obtain ⟨z0, z1, z2, _⟩ := blk3 hz
        refine bodyPost_ret (v := .tuple #[.agg #[.int .i64 (((l.length : Int), (m : Int), levels out) : Tr).1, .int .i64 (((l.length : Int), (m : Int), levels out) : Tr).2.1, .slice A4 (((l.length : Int), (m : Int), levels out) : Tr).2.2.length c4], .int .i64 0]) ?_ rfl ?_
        · simp [results, Try.results34, Try.f34, go_sem, z0, z1, z2, zTree]
        exact hret
end Go.Proofs.Ytjehedfdikdfpaa
namespace Go.Proofs.Ytjehedfdikdfpaa

/-- the code's test: the number of nodes that the next level must have; 0 behind the last -/
def shC : Nat → List (List Int) → Bool
  | n, [] => n == 0
  | n, l :: r => l.length == n && (n != 1 || r.isEmpty) && shC (((if n = 1 then 0 else n) + 1) / 2) r
theorem shC_eq : ∀ (ls : List (List Int)) (n : Nat), 1 ≤ n → shC n ls = shapeB n ls
  | [], n, h => by
    have : ¬ n = 0 := by omega
    simp [shC, shapeB, this]
  | [l], n, h => by
    by_cases h1 : n = 1
    · subst h1; simp [shC, shapeB]
    · have h2 : (n + 1) / 2 ≠ 0 := by omega
      have h3 : ((n + 1) / 2 == 0) = false := by simpa using h2
      have h4 : (n == 1) = false := by simpa using h1
      rw [shapeB, shC, if_neg h1, shC, h3, h4]; simp
  | l :: m :: r, n, h => by
    by_cases h1 : n = 1
    · subst h1; simp [shC, shapeB]
    · have ih := shC_eq (m :: r) ((n + 1) / 2) (by omega)
      rw [shapeB, shC, if_neg h1, ih]
      simp
end Go.Proofs.Ytjehedfdikdfpaa
namespace Go.Proofs.Ytjehedfdikdfpaa

/-- the number of nodes of a level -/
def nk : Nat → Nat → Nat
  | n, 0 => n
  | n, k + 1 => nk ((n + 1) / 2) k
theorem nk_succ : ∀ (k n : Nat), nk n (k + 1) = (nk n k + 1) / 2
  | 0, n => rfl
  | k + 1, n => by
    show nk ((n + 1) / 2) (k + 1) = _
    rw [nk_succ k ((n + 1) / 2)]; rfl
theorem shapeB_ne {n : Nat} {l : List (List Int)} (h : shapeB n l = true) : l ≠ [] := by
  cases l with
  | nil => simp [shapeB] at h
  | cons x r => simp
theorem shapeB_get : ∀ {l : List (List Int)} {n : Nat}, shapeB n l = true → ∀ (k : Nat) (hk : k < l.length), l[k].length = nk n k ∧ (nk n k = 1 ↔ k + 1 = l.length)
  | [], n, h, k, hk => by simp at hk
  | [x], n, h, k, hk => by
    simp [shapeB] at h
    have : k = 0 := by simpa using hk
    subst this
    exact ⟨h.1, by simp [nk, h.2]⟩
  | x :: y :: r, n, h, 0, hk => by
    simp [shapeB] at h
    exact ⟨h.1.1, by simp [nk, h.1.2]⟩
  | x :: y :: r, n, h, k + 1, hk => by
    simp only [shapeB, Bool.and_eq_true] at h
    have ih := shapeB_get h.2 k (by simpa using hk)
    refine ⟨ih.1, ?_⟩
    show nk ((n + 1) / 2) k = 1 ↔ _
    rw [ih.2]; simp
theorem shapeB_pos : ∀ {l : List (List Int)} {n : Nat}, shapeB n l = true → 1 ≤ n
  | [], n, h => by simp [shapeB] at h
  | [x], n, h => by simp [shapeB] at h; omega
  | x :: y :: r, n, h => by
    simp only [shapeB, Bool.and_eq_true] at h
    have := shapeB_pos h.2; omega
theorem shapeB_len : ∀ {l : List (List Int)} {n k : Nat}, shapeB n l = true → n ≤ 2 ^ k → l.length ≤ k + 1
  | [], n, k, h, _ => by simp
  | [x], n, k, h, _ => by simp
  | x :: y :: r, n, 0, h, hn => by
    simp only [shapeB, Bool.and_eq_true] at h
    have h1 := shapeB_pos h.2
    have h2 : n ≠ 1 := by simpa using h.1.2
    have : n ≤ 1 := by simpa using hn
    omega
  | x :: y :: r, n, k + 1, h, hn => by
    simp only [shapeB, Bool.and_eq_true] at h
    have h3 : n ≤ 2 * 2 ^ k := by rw [Nat.pow_succ] at hn; omega
    have := shapeB_len (k := k) h.2 (by omega)
    simp at this ⊢; omega
theorem nk_pos : ∀ (k n : Nat), 1 ≤ n → 1 ≤ nk n k
  | 0, n, h => h
  | k + 1, n, h => nk_pos k ((n + 1) / 2) (by omega)
theorem nk_le : ∀ (k n : Nat), nk n k ≤ n
  | 0, n => Nat.le_refl _
  | k + 1, n => Nat.le_trans (nk_le k ((n + 1) / 2)) (by omega)
/-- what Check says -/
theorem checkT_ok {s lf : Int} {l : List (List Int)} (h : checkT (s, lf, l) = 0) : (1 ≤ s ∧ s ≤ 4096 ∧ 1 ≤ lf ∧ lf ≤ 4096) ∧ shapeB (leavesN s.toNat lf.toNat) l = true ∧ levels (l.headD []) = l := by
  unfold checkT at h
  by_cases h1 : limN s lf ≠ 0
  · rw [if_pos h1] at h; exact absurd h h1
  · rw [if_neg h1] at h
    by_cases h2 : shapeB (leavesN s.toNat lf.toNat) l = false
    · rw [if_pos h2] at h; cases h
    · rw [if_neg h2] at h
      by_cases h3 : levels (l.headD []) ≠ l
      · rw [if_pos h3] at h; cases h
      · refine ⟨?_, by simpa using h2, by simpa using h3⟩
        rcases limN_cases s lf with ⟨g, _⟩ | ⟨g, _⟩ | ⟨_, g⟩
        · exact absurd (by rw [g]; decide) h1
        · exact absurd (by rw [g]; decide) h1
        · exact g
/-- a tree that is correct: its levels -/
structure TOk (n m : Nat) (l : List (List Int)) : Prop where
  n1 : 1 ≤ n
  n2 : n ≤ 4096
  m1 : 1 ≤ m
  m2 : m ≤ 4096
  ne : 0 < l.length
  len : l.length ≤ 13
  at_ : ∀ (k : Nat) (hk : k < l.length), l[k].length = nk (leavesN n m) k ∧ (nk (leavesN n m) k = 1 ↔ k + 1 = l.length) ∧ 1 ≤ nk (leavesN n m) k ∧ nk (leavesN n m) k ≤ 4096
  lev : levels (l.headD []) = l
theorem checkT_TOk {s lf : Int} {l : List (List Int)} (h : checkT (s, lf, l) = 0) : ∃ n m : Nat, s = n ∧ lf = m ∧ TOk n m l := by
  obtain ⟨⟨h1, h2, h3, h4⟩, h5, h6⟩ := checkT_ok h
  refine ⟨s.toNat, lf.toNat, by omega, by omega, by omega, by omega, by omega, by omega, ?_, ?_, ?_, h6⟩
  · exact List.length_pos_iff.2 (shapeB_ne h5)
  · have := leavesN_le (n := s.toNat) (m := lf.toNat) (by omega)
    exact shapeB_len (k := 12) h5 (by omega)
  · intro k hk
    have ha := shapeB_get h5 k hk
    have hb := leavesN_le (n := s.toNat) (m := lf.toNat) (by omega)
    have hc := nk_le k (leavesN s.toNat lf.toNat)
    exact ⟨ha.1, ha.2, nk_pos _ _ (shapeB_pos h5), by omega⟩
end Go.Proofs.Ytjehedfdikdfpaa
namespace Go.Proofs.Ytjehedfdikdfpaa

def inExt (x : Int) (e : Ext) : Bool := decide (0 ≤ x ∧ x < 4096 ∧ e.1 ≤ x ∧ x < e.1 + e.2)
abbrev End := Int × Int × Int
def clipF (e : Ext) : Int := if e.1 < 0 then 0 else e.1
def clipT (e : Ext) : Int := if e.1 + e.2 < 4096 then e.1 + e.2 else 4096
/-- the ends of one list -/
def endsL (i : Int) (l : List Ext) : List End := l.flatMap fun e => if clipF e < clipT e then [(clipF e, i, 1), (clipT e, i, -1)] else []
def endsOf (a b : List Ext) : List End := endsL 0 a ++ endsL 1 b
/-- the sum of the steps of a list's ends up to a place -/
def dsum (i p : Int) (s : List End) : Int := s.foldr (fun e r => (if e.2.1 = i ∧ e.1 ≤ p then e.2.2 else 0) + r) 0
theorem dsum_cons (i p : Int) (e : End) (s : List End) : dsum i p (e :: s) = (if e.2.1 = i ∧ e.1 ≤ p then e.2.2 else 0) + dsum i p s := rfl
theorem dsum_append (i p : Int) (s t : List End) : dsum i p (s ++ t) = dsum i p s + dsum i p t := by
  induction s with
  | nil => simp [dsum]
  | cons e s ih => rw [List.cons_append, dsum_cons, dsum_cons, ih]; omega
theorem dsum_perm {i p : Int} {s t : List End} (h : s.Perm t) : dsum i p s = dsum i p t := by
  induction h with
  | nil => rfl
  | cons e _ ih => rw [dsum_cons, dsum_cons, ih]
  | swap e f l => simp only [dsum_cons]; omega
  | trans _ _ ih1 ih2 => exact ih1.trans ih2
/-- the whole sum of a list's steps -/
def dtot (i : Int) (s : List End) : Int := s.foldr (fun e r => (if e.2.1 = i then e.2.2 else 0) + r) 0
theorem dtot_cons (i : Int) (e : End) (s : List End) : dtot i (e :: s) = (if e.2.1 = i then e.2.2 else 0) + dtot i s := rfl
theorem dtot_snoc (i : Int) (s : List End) (e : End) : dtot i (s ++ [e]) = dtot i s + (if e.2.1 = i then e.2.2 else 0) := by
  induction s with
  | nil => simp [dtot]
  | cons f s ih => rw [List.cons_append, dtot_cons, dtot_cons, ih]; omega
theorem dsum_le {i p : Int} {s : List End} (h : ∀ e ∈ s, e.1 ≤ p) : dsum i p s = dtot i s := by
  induction s with
  | nil => rfl
  | cons e s ih =>
    have h1 := h e (by simp)
    rw [dsum_cons, dtot_cons, ih (fun f hf => h f (by simp [hf]))]
    by_cases hi : e.2.1 = i <;> simp [hi, h1]
theorem dsum_gt {i p : Int} {s : List End} (h : ∀ e ∈ s, p < e.1) : dsum i p s = 0 := by
  induction s with
  | nil => rfl
  | cons e s ih =>
    have h1 := h e (by simp)
    rw [dsum_cons, ih (fun f hf => h f (by simp [hf])), if_neg (by omega)]; rfl
theorem endsL_other {i j p : Int} (h : i ≠ j) (l : List Ext) : dsum j p (endsL i l) = 0 := by
  induction l with
  | nil => rfl
  | cons e l ih =>
    have : endsL i (e :: l) = (if clipF e < clipT e then [(clipF e, i, 1), (clipT e, i, -1)] else []) ++ endsL i l := rfl
    rw [this, dsum_append, ih]
    split
    · simp [dsum, h]
    · simp [dsum]
/-- how many extents contain a place -/
def cover (p : Int) (l : List Ext) : Int := l.foldr (fun e r => (if clipF e ≤ p ∧ p < clipT e then 1 else 0) + r) 0
theorem endsL_same (i p : Int) (l : List Ext) : dsum i p (endsL i l) = cover p l := by
  induction l with
  | nil => rfl
  | cons e l ih =>
    have h1 : endsL i (e :: l) = (if clipF e < clipT e then [(clipF e, i, 1), (clipT e, i, -1)] else []) ++ endsL i l := rfl
    have h2 : cover p (e :: l) = (if clipF e ≤ p ∧ p < clipT e then 1 else 0) + cover p l := rfl
    rw [h1, dsum_append, ih, h2]
    congr 1
    by_cases hc : clipF e < clipT e
    · rw [if_pos hc]
      simp only [dsum, List.foldr_cons, List.foldr_nil, true_and]
      by_cases a1 : clipF e ≤ p
      · by_cases a2 : clipT e ≤ p
        · rw [if_pos a1, if_pos a2, if_neg (by omega)]; rfl
        · rw [if_pos a1, if_neg a2, if_pos (by omega)]; rfl
      · rw [if_neg a1, if_neg (by omega), if_neg (by omega)]; rfl
    · rw [if_neg hc, if_neg (by omega)]; rfl
theorem cover_nonneg (p : Int) (l : List Ext) : 0 ≤ cover p l := by
  induction l with
  | nil => exact Int.le_refl _
  | cons e l ih =>
    have h2 : cover p (e :: l) = (if clipF e ≤ p ∧ p < clipT e then 1 else 0) + cover p l := rfl
    rw [h2]; split <;> omega
theorem cover_any {p : Int} (h0 : 0 ≤ p) (h1 : p < 4096) (l : List Ext) : decide (0 < cover p l) = l.any (inExt p) := by
  induction l with
  | nil => rfl
  | cons e l ih =>
    have h2 : cover p (e :: l) = (if clipF e ≤ p ∧ p < clipT e then 1 else 0) + cover p l := rfl
    have hn := cover_nonneg p l
    rw [h2, List.any_cons, ← ih]
    have hiff : (clipF e ≤ p ∧ p < clipT e) ↔ (0 ≤ p ∧ p < 4096 ∧ e.1 ≤ p ∧ p < e.1 + e.2) := by
      unfold clipF clipT; split <;> split <;> omega
    unfold inExt
    by_cases hc : clipF e ≤ p ∧ p < clipT e
    · rw [if_pos hc, decide_eq_true (hiff.1 hc), decide_eq_true (by omega)]; rfl
    · rw [if_neg hc, decide_eq_false (fun h => hc (hiff.2 h))]; simp
theorem ends_range {a b : List Ext} : ∀ e ∈ endsOf a b, 0 ≤ e.1 ∧ e.1 ≤ 4096 ∧ (e.2.1 = 0 ∨ e.2.1 = 1) ∧ (e.2.2 = 1 ∨ e.2.2 = -1) := by
  have key : ∀ (i : Int) (l : List Ext), (i = 0 ∨ i = 1) → ∀ e ∈ endsL i l, 0 ≤ e.1 ∧ e.1 ≤ 4096 ∧ (e.2.1 = 0 ∨ e.2.1 = 1) ∧ (e.2.2 = 1 ∨ e.2.2 = -1) := by
    intro i l hi e he
    obtain ⟨x, _, hx⟩ := List.mem_flatMap.1 he
    split at hx
    · rename_i hc
      have hF : 0 ≤ clipF x := by unfold clipF; split <;> omega
      have hT : clipT x ≤ 4096 := by unfold clipT; split <;> omega
      simp only [List.mem_cons, List.not_mem_nil, or_false] at hx
      rcases hx with rfl | rfl
      · exact ⟨hF, by simp only; omega, hi, Or.inl rfl⟩
      · exact ⟨by simp only; omega, hT, hi, Or.inr rfl⟩
    · simp at hx
  intro e he
  rcases List.mem_append.1 he with he | he
  · exact key 0 a (Or.inl rfl) e he
  · exact key 1 b (Or.inr rfl) e he

/-- the state of a sweep -/
structure Sw where
  dA : Int
  dB : Int
  start : Int
  inside : Bool
  out : List Ext
def swIn (keep : Bool → Bool → Bool) (dA dB : Int) : Bool := keep (decide (0 < dA)) (decide (0 < dB))
/-- one end more -/
def swStep (keep : Bool → Bool → Bool) (st : Sw) (x : End) (last : Bool) : Sw :=
  let dA := if x.2.1 = 0 then st.dA + x.2.2 else st.dA
  let dB := if x.2.1 = 0 then st.dB else st.dB + x.2.2
  if last = false then { st with dA := dA, dB := dB } else
    let now := swIn keep dA dB
    { dA := dA, dB := dB, start := if now && !st.inside then x.1 else st.start, inside := now, out := if !now && st.inside then st.out ++ [(st.start, x.1 - st.start)] else st.out }
/-- is an end the last one at its place -/
def lastAt (x : End) (rest : List End) : Bool := match rest with | [] => true | y :: _ => decide (y.1 ≠ x.1)
def sweepL (keep : Bool → Bool → Bool) : List End → Sw → Sw
  | [], st => st
  | x :: rest, st => sweepL keep rest (swStep keep st x (lastAt x rest))
/-- the runs of what satisfies a condition below a place -/
def below (P : Int → Bool) (q : Nat) : List Int := ((List.range q).filter fun (x : Nat) => P x).map Int.ofNat
theorem below_succ (P : Int → Bool) (q : Nat) : below P (q + 1) = below P q ++ (if P q then [(q : Int)] else []) := by
  unfold below
  rw [List.range_succ, List.filter_append, List.map_append]
  congr 1
  by_cases h : P q <;> simp [h]
theorem below_lt (P : Int → Bool) (q : Nat) : ∀ x ∈ below P q, 0 ≤ x ∧ x < q := by
  intro x hx
  obtain ⟨i, hi, rfl⟩ := List.mem_map.1 hx
  have := List.mem_range.1 (List.mem_filter.1 hi).1
  exact ⟨Int.natCast_nonneg i, Int.ofNat_lt.2 this⟩
/-- a stretch without -/
theorem runs_off {P : Int → Bool} {a q : Nat} (h : a ≤ q) (hp : ∀ x : Nat, a ≤ x → x < q → P x = false) : runsL (below P q) = runsL (below P a) := by
  induction q with
  | zero => have : a = 0 := by omega
            subst this; rfl
  | succ q ih =>
    by_cases e : a = q + 1
    · rw [e]
    · rw [below_succ, if_neg (by rw [hp q (by omega) (by omega)]; simp), List.append_nil]
      exact ih (by omega) (fun x h1 h2 => hp x h1 (by omega))
/-- a stretch with, behind a gap -/
theorem runs_on {P : Int → Bool} {a q : Nat} {out : List Ext} (h : a < q) (h0 : runsL (below P a) = out) (hg : ∀ s c, out.getLast? = some (s, c) → s + c < a) (hp : ∀ x : Nat, a ≤ x → x < q → P x = true) : runsL (below P q) = out ++ [((a : Int), (q : Int) - a)] := by
  induction q with
  | zero => omega
  | succ q ih =>
    rw [below_succ, if_pos (hp q (by omega) (by omega)), runsL_snoc]
    by_cases e : a = q
    · subst e
      rw [h0, runStep_new (fun s c hl => by have := hg s c hl; omega)]
      congr 3
      omega
    · rw [ih (by omega) (fun x h1 h2 => hp x h1 (by omega))]
      unfold runStep
      rw [List.getLast?_concat]
      simp only
      rw [if_pos (by omega), List.dropLast_concat]
      congr 3
      omega
end Go.Proofs.Ytjehedfdikdfpaa

namespace Go.Proofs.Ytjehedfdikdfpaa

/-- what a sweep knows behind a place -/
def SwInv (P : Int → Bool) (a : Nat) (st : Sw) : Prop :=
  if st.inside = true then ∃ s0 : Nat, st.start = s0 ∧ s0 ≤ a ∧ runsL (below P s0) = st.out ∧ (∀ s c, st.out.getLast? = some (s, c) → s + c < s0) ∧ ∀ x : Nat, s0 ≤ x → x < a → P x = true
  else runsL (below P a) = st.out ∧ ∀ s c, st.out.getLast? = some (s, c) → s + c ≤ a
theorem SwInv.on {P : Int → Bool} {a c : Nat} {st : Sw} (h : SwInv P a st) (hac : a ≤ c) (hp : ∀ x : Nat, a ≤ x → x < c → P x = st.inside) : SwInv P c st := by
  unfold SwInv at h ⊢
  cases hi : st.inside with
  | true =>
    rw [hi] at h hp
    simp only [if_true] at h ⊢
    obtain ⟨s0, h1, h2, h3, h4, h5⟩ := h
    refine ⟨s0, h1, by omega, h3, h4, fun x hx hxc => ?_⟩
    by_cases e : x < a
    · exact h5 x hx e
    · exact hp x (by omega) hxc
  | false =>
    rw [hi] at h hp
    simp only [Bool.false_eq_true, if_false] at h ⊢
    refine ⟨(runs_off hac hp).trans h.1, fun s c' hl => ?_⟩
    have := h.2 s c' hl
    omega
/-- the last end at a place -/
theorem SwInv.turn {P : Int → Bool} {c : Nat} {st : Sw} (h : SwInv P c st) (keep : Bool → Bool → Bool) (x : End) (hx : x.1 = c) (hgap : st.inside = false → ∀ s c', st.out.getLast? = some (s, c') → s + c' < c) (hin : st.inside = true → ∃ s0 : Nat, st.start = s0 ∧ s0 < c) :
    SwInv P c (swStep keep st x true) := by
  have hs : swStep keep st x true = { dA := if x.2.1 = 0 then st.dA + x.2.2 else st.dA, dB := if x.2.1 = 0 then st.dB else st.dB + x.2.2, start := if swIn keep (if x.2.1 = 0 then st.dA + x.2.2 else st.dA) (if x.2.1 = 0 then st.dB else st.dB + x.2.2) && !st.inside then x.1 else st.start, inside := swIn keep (if x.2.1 = 0 then st.dA + x.2.2 else st.dA) (if x.2.1 = 0 then st.dB else st.dB + x.2.2), out := if !(swIn keep (if x.2.1 = 0 then st.dA + x.2.2 else st.dA) (if x.2.1 = 0 then st.dB else st.dB + x.2.2)) && st.inside then st.out ++ [(st.start, x.1 - st.start)] else st.out } := rfl
  rw [hs]
  generalize swIn keep (if x.2.1 = 0 then st.dA + x.2.2 else st.dA) (if x.2.1 = 0 then st.dB else st.dB + x.2.2) = now
  unfold SwInv at h ⊢
  simp only
  cases now with
  | true =>
    cases hi : st.inside with
    | true =>
      rw [hi] at h
      simpa using h
    | false =>
      rw [hi] at h
      simp only [Bool.false_eq_true, if_false] at h
      simp only [Bool.not_false, Bool.and_self, if_true, Bool.not_true, Bool.false_and, Bool.false_eq_true, if_false]
      exact ⟨c, hx, Nat.le_refl _, h.1, hgap hi, fun y h1 h2 => by omega⟩
  | false =>
    cases hi : st.inside with
    | true =>
      rw [hi] at h
      simp only [if_true] at h
      obtain ⟨s0, h1, h2, h3, h4, h5⟩ := h
      obtain ⟨s1, h6, h7⟩ := hin hi
      have : s0 = s1 := by have := h1.symm.trans h6; omega
      subst this
      simp only [Bool.false_eq_true, if_false, Bool.not_false, Bool.and_self, if_true]
      rw [h1, hx]
      refine ⟨runs_on h7 h3 h4 h5, fun s c' hl => ?_⟩
      rw [List.getLast?_concat] at hl
      injection hl with hl
      injection hl with e1 e2
      omega
    | false =>
      rw [hi] at h
      simpa using h
/-- what satisfies the condition at a place, of the whole list of ends -/
def PofL (keep : Bool → Bool → Bool) (s : List End) (p : Int) : Bool := swIn keep (dsum 0 p s) (dsum 1 p s)
theorem sweep_inv (keep : Bool → Bool → Bool) (s : List End) (hs : s.Pairwise (fun x y => x.1 ≤ y.1)) (hr : ∀ e ∈ s, 0 ≤ e.1 ∧ e.1 ≤ 4096 ∧ (e.2.1 = 0 ∨ e.2.1 = 1)) :
    ∀ (rest pre : List End) (st : Sw) (a : Nat), s = pre ++ rest → st.dA = dtot 0 pre → st.dB = dtot 1 pre → a ≤ 4096 → SwInv (PofL keep s) a st → (∀ y ∈ rest, (a : Int) ≤ y.1) →
      (∀ y ∈ rest, (a : Int) < y.1 ∨ (st.out = [] ∧ st.inside = false)) → (∀ x : Nat, a ≤ x → (∀ y ∈ rest, (x : Int) < y.1) → PofL keep s x = st.inside) →
      ∃ a' : Nat, a' ≤ 4096 ∧ SwInv (PofL keep s) a' (sweepL keep rest st) ∧ ∀ x : Nat, a' ≤ x → PofL keep s x = (sweepL keep rest st).inside := by
  intro rest
  induction rest with
  | nil =>
    intro pre st a _ _ _ ha hinv _ _ hp
    exact ⟨a, ha, hinv, fun x hx => hp x hx (by simp)⟩
  | cons x rest ih =>
    intro pre st a he hA hB ha hinv hle hlt hp
    have hxs : x ∈ s := by rw [he]; simp
    obtain ⟨x0, x1, x2⟩ := hr x hxs
    have hs' := hs
    rw [he, List.pairwise_append] at hs'
    obtain ⟨_, hs2, hs3⟩ := hs'
    rw [List.pairwise_cons] at hs2
    obtain ⟨c, hc⟩ := Int.eq_ofNat_of_zero_le x0
    have hac : a ≤ c := by have := hle x (by simp); omega
    have he' : s = (pre ++ [x]) ++ rest := by rw [he]; simp
    have hA' : (if x.2.1 = 0 then st.dA + x.2.2 else st.dA) = dtot 0 (pre ++ [x]) := by
      rw [dtot_snoc, hA]; split <;> simp
    have hB' : (if x.2.1 = 0 then st.dB else st.dB + x.2.2) = dtot 1 (pre ++ [x]) := by
      rw [dtot_snoc, hB]
      rcases x2 with h | h
      · rw [if_pos h, if_neg (by omega)]; simp
      · rw [if_neg (by omega), if_pos h]
    show ∃ a' : Nat, a' ≤ 4096 ∧ SwInv (PofL keep s) a' (sweepL keep rest (swStep keep st x (lastAt x rest))) ∧ ∀ y : Nat, a' ≤ y → PofL keep s y = (sweepL keep rest (swStep keep st x (lastAt x rest))).inside
    cases hl : lastAt x rest with
    | false =>
      have hy : ∃ y r, rest = y :: r ∧ y.1 = x.1 := by
        unfold lastAt at hl
        split at hl
        · cases hl
        · rename_i y r
          exact ⟨y, r, rfl, by simpa using hl⟩
      obtain ⟨y, r, hy1, hy2⟩ := hy
      have hst : swStep keep st x false = { st with dA := if x.2.1 = 0 then st.dA + x.2.2 else st.dA, dB := if x.2.1 = 0 then st.dB else st.dB + x.2.2 } := rfl
      rw [hst]
      refine ih (pre ++ [x]) _ a he' hA' hB' ha hinv (fun z hz => hle z (by simp [hz])) (fun z hz => hlt z (by simp [hz])) (fun z hz h => hp z hz (fun w hw => ?_))
      rcases List.mem_cons.1 hw with rfl | hw
      · have := h y (by rw [hy1]; simp); omega
      · exact h w hw
    | true =>
      have hrest : ∀ y ∈ rest, (c : Int) < y.1 := by
        intro y hy
        have h1 := hs2.1 y hy
        unfold lastAt at hl
        split at hl
        · simp at hy
        · rename_i z r
          have hz : z.1 ≠ x.1 := by simpa using hl
          have hz1 := hs2.1 z (by simp)
          rcases List.mem_cons.1 hy with rfl | hy'
          · omega
          · have := (List.pairwise_cons.1 hs2.2).1 y hy'
            omega
      have hon : SwInv (PofL keep s) c st := hinv.on hac (fun z h1 h2 => hp z h1 (fun w hw => by
        rcases List.mem_cons.1 hw with rfl | hw
        · omega
        · have := hrest w hw; omega))
      have hnew := hon.turn keep x hc (fun hin s' c' hl' => by
        rcases hlt x (by simp) with h | ⟨h, _⟩
        · unfold SwInv at hinv
          rw [hin] at hinv
          simp only [Bool.false_eq_true, if_false] at hinv
          have := hinv.2 s' c' hl'
          omega
        · rw [h] at hl'; simp at hl') (fun hin => by
        rcases hlt x (by simp) with h | ⟨_, h⟩
        · unfold SwInv at hinv
          rw [if_pos hin] at hinv
          obtain ⟨s0, h1, h2, _⟩ := hinv
          exact ⟨s0, h1, by omega⟩
        · rw [h] at hin; cases hin)
      have hd : (swStep keep st x true).dA = dtot 0 (pre ++ [x]) := hA'
      have hd2 : (swStep keep st x true).dB = dtot 1 (pre ++ [x]) := hB'
      have hin2 : (swStep keep st x true).inside = swIn keep (dtot 0 (pre ++ [x])) (dtot 1 (pre ++ [x])) := by rw [← hA', ← hB']; rfl
      refine ih (pre ++ [x]) _ c he' hd hd2 (by omega) hnew (fun z hz => by have := hrest z hz; omega) (fun z hz => Or.inl (hrest z hz)) (fun z hz h => ?_)
      rw [hin2]
      unfold PofL
      have hpre : ∀ e ∈ pre ++ [x], e.1 ≤ (z : Int) := by
        intro e hem
        rcases List.mem_append.1 hem with h1 | h1
        · have := hs3 e h1 x (by simp); omega
        · rw [List.mem_singleton.1 h1]; omega
      rw [he', dsum_append 0 z (pre ++ [x]) rest, dsum_append 1 z (pre ++ [x]) rest, dsum_le hpre, dsum_le hpre, dsum_gt h, dsum_gt h, Int.add_zero, Int.add_zero]
theorem cover_far (l : List Ext) : cover 4096 l = 0 := by
  induction l with
  | nil => rfl
  | cons e l ih =>
    have h2 : cover 4096 (e :: l) = (if clipF e ≤ 4096 ∧ (4096 : Int) < clipT e then 1 else 0) + cover 4096 l := rfl
    have hT : clipT e ≤ 4096 := by unfold clipT; split <;> omega
    rw [h2, ih, if_neg (by omega)]; rfl
/-- the runs of the sectors below 4096 that a set operation selects -/
def opL (keep : Bool → Bool → Bool) (a b : List Ext) : List Ext := runsL (below (fun x => keep (a.any (inExt x)) (b.any (inExt x))) 4096)
def sw0 : Sw := { dA := 0, dB := 0, start := 0, inside := false, out := [] }
theorem below_congr (P Q : Int → Bool) (q : Nat) (h : ∀ x : Nat, x < q → P x = Q x) : below P q = below Q q := by
  unfold below
  refine congrArg _ (List.filter_congr fun x hx => ?_)
  exact h x (List.mem_range.1 hx)
/-- THE LAW OF THE SWEEP -/
theorem sweep_law (keep : Bool → Bool → Bool) (hk : keep false false = false) (a b : List Ext) (s : List End) (hp : s.Perm (endsOf a b)) (hs : s.Pairwise (fun x y => x.1 ≤ y.1)) : (sweepL keep s sw0).out = opL keep a b := by
  have hr : ∀ e ∈ s, 0 ≤ e.1 ∧ e.1 ≤ 4096 ∧ (e.2.1 = 0 ∨ e.2.1 = 1) := fun e he => by
    obtain ⟨h1, h2, h3, _⟩ := ends_range e (hp.mem_iff.1 he)
    exact ⟨h1, h2, h3⟩
  have hP : ∀ p : Int, PofL keep s p = swIn keep (cover p a) (cover p b) := by
    intro p
    unfold PofL
    rw [dsum_perm hp, dsum_perm hp]
    unfold endsOf
    rw [dsum_append, dsum_append, endsL_same, endsL_other (by decide), endsL_other (by decide), endsL_same]
    simp
  have h0 : PofL keep [] = fun _ => false := by
    funext p; simp [PofL, swIn, dsum, hk]
  obtain ⟨a', ha', hinv, hfar⟩ := sweep_inv keep s hs hr s [] sw0 0 (by simp) rfl rfl (by omega) (by
    unfold SwInv
    simp [sw0, below, runsL]) (fun y hy => by have := (hr y hy).1; omega) (fun y hy => Or.inr ⟨rfl, rfl⟩) (fun x _ h => by
    show PofL keep s x = false
    unfold PofL
    rw [dsum_gt h, dsum_gt h]
    simp [swIn, hk])
  have hin : (sweepL keep s sw0).inside = false := by
    rw [← hfar 4096 ha', hP]
    have h1 := cover_far a
    have h2 := cover_far b
    show swIn keep (cover ((4096 : Nat) : Int) a) (cover ((4096 : Nat) : Int) b) = false
    rw [show ((4096 : Nat) : Int) = 4096 from rfl, h1, h2]
    simp [swIn, hk]
  unfold SwInv at hinv
  rw [hin] at hinv hfar
  simp only [Bool.false_eq_true, if_false] at hinv
  rw [← hinv.1, ← runs_off ha' (fun x h1 _ => hfar x h1)]
  unfold opL
  refine congrArg _ (below_congr _ _ 4096 fun x hx => ?_)
  rw [hP]
  unfold swIn
  rw [cover_any (by omega) (by omega), cover_any (by omega) (by omega)]
end Go.Proofs.Ytjehedfdikdfpaa

namespace Go.Proofs.Ytjehedfdikdfpaa

def swN (keep : Bool → Bool → Bool) (s : List End) : Nat → Sw
  | 0 => sw0
  | k + 1 => match s[k]? with
    | some x => swStep keep (swN keep s k) x (lastAt x (s.drop (k + 1)))
    | none => swN keep s k
theorem swN_succ {keep : Bool → Bool → Bool} {s : List End} {k : Nat} (hk : k < s.length) : swN keep s (k + 1) = swStep keep (swN keep s k) s[k] (lastAt s[k] (s.drop (k + 1))) := by
  show (match s[k]? with | some x => swStep keep (swN keep s k) x (lastAt x (s.drop (k + 1))) | none => swN keep s k) = _
  rw [List.getElem?_eq_getElem hk]
theorem sweepL_drop (keep : Bool → Bool → Bool) (s : List End) : ∀ m k, k + m = s.length → sweepL keep (s.drop k) (swN keep s k) = swN keep s s.length := by
  intro m
  induction m with
  | zero =>
    intro k hk
    have : k = s.length := by omega
    subst this
    rw [List.drop_length]; rfl
  | succ m ih =>
    intro k hk
    have hlt : k < s.length := by omega
    rw [List.drop_eq_getElem_cons hlt]
    show sweepL keep (s.drop (k + 1)) (swStep keep (swN keep s k) s[k] (lastAt s[k] (s.drop (k + 1)))) = _
    rw [← swN_succ hlt]
    exact ih (k + 1) (by omega)
theorem sweepL_swN (keep : Bool → Bool → Bool) (s : List End) : sweepL keep s sw0 = swN keep s s.length := by
  have := sweepL_drop keep s s.length 0 (by omega)
  rw [List.drop_zero] at this
  exact this
theorem swStep_true (keep : Bool → Bool → Bool) (st : Sw) (x : End) : ∃ now : Bool, swStep keep st x true = { dA := if x.2.1 = 0 then st.dA + x.2.2 else st.dA, dB := if x.2.1 = 0 then st.dB else st.dB + x.2.2, start := if now && !st.inside then x.1 else st.start, inside := now, out := if !now && st.inside then st.out ++ [(st.start, x.1 - st.start)] else st.out } := ⟨_, rfl⟩
theorem swStep_false (keep : Bool → Bool → Bool) (st : Sw) (x : End) : swStep keep st x false = { st with dA := if x.2.1 = 0 then st.dA + x.2.2 else st.dA, dB := if x.2.1 = 0 then st.dB else st.dB + x.2.2 } := rfl
theorem swStep_out (keep : Bool → Bool → Bool) (st : Sw) (x : End) (q : Bool) : st.out <+: (swStep keep st x q).out := by
  cases q with
  | false => exact List.prefix_rfl
  | true =>
    obtain ⟨now, h⟩ := swStep_true keep st x
    rw [h]
    simp only
    split
    · exact List.prefix_append _ _
    · exact List.prefix_rfl
theorem swN_mono (keep : Bool → Bool → Bool) (s : List End) : ∀ m k, (swN keep s k).out <+: (swN keep s (k + m)).out := by
  intro m
  induction m with
  | zero => exact fun k => List.prefix_rfl
  | succ m ih =>
    intro k
    refine (ih k).trans ?_
    show (swN keep s (k + m)).out <+: (swN keep s (k + m + 1)).out
    by_cases h : k + m < s.length
    · rw [swN_succ h]; exact swStep_out _ _ _ _
    · have : swN keep s (k + m + 1) = swN keep s (k + m) := by
        show (match s[k + m]? with | some x => swStep keep (swN keep s (k + m)) x (lastAt x (s.drop (k + m + 1))) | none => swN keep s (k + m)) = _
        rw [List.getElem?_eq_none (by omega)]
      rw [this]; exact List.prefix_rfl
theorem swN_prefix (keep : Bool → Bool → Bool) (s : List End) {k : Nat} (hk : k ≤ s.length) : (swN keep s k).out <+: (swN keep s s.length).out := by
  have := swN_mono keep s (s.length - k) k
  rwa [show k + (s.length - k) = s.length from by omega] at this
/-- the numbers of a state stay small -/
def SwOk (k : Nat) (st : Sw) : Prop := -(k : Int) ≤ st.dA ∧ st.dA ≤ k ∧ -(k : Int) ≤ st.dB ∧ st.dB ≤ k ∧ 0 ≤ st.start ∧ st.start ≤ 4096 ∧ (∀ e ∈ st.out, 0 ≤ e.1 ∧ e.1 ≤ 4096 ∧ -4096 ≤ e.2 ∧ e.2 ≤ 4096) ∧ st.out.length ≤ k
theorem swN_ok (keep : Bool → Bool → Bool) (s : List End) (hr : ∀ e ∈ s, 0 ≤ e.1 ∧ e.1 ≤ 4096 ∧ (e.2.1 = 0 ∨ e.2.1 = 1) ∧ (e.2.2 = 1 ∨ e.2.2 = -1)) : ∀ k, k ≤ s.length → SwOk k (swN keep s k) := by
  intro k
  induction k with
  | zero => exact fun _ => ⟨by simp [swN, sw0], by simp [swN, sw0], by simp [swN, sw0], by simp [swN, sw0], by simp [swN, sw0], by simp [swN, sw0], by simp [swN, sw0], by simp [swN, sw0]⟩
  | succ k ih =>
    intro hk
    obtain ⟨i1, i2, i3, i4, i5, i6, i7, i8⟩ := ih (by omega)
    have hlt : k < s.length := by omega
    obtain ⟨r1, r2, _, r4⟩ := hr s[k] (List.getElem_mem hlt)
    rw [swN_succ hlt]
    generalize swN keep s k = st at i1 i2 i3 i4 i5 i6 i7 i8 ⊢
    generalize s[k] = x at r1 r2 r4 ⊢
    generalize lastAt x (s.drop (k + 1)) = q
    have hd : ∀ d : Int, -(k : Int) ≤ d → d ≤ k → -((k + 1 : Nat) : Int) ≤ d + x.2.2 ∧ d + x.2.2 ≤ ((k + 1 : Nat) : Int) := fun d h1 h2 => by
      rcases r4 with r | r <;> (rw [r]; omega)
    have hA := hd _ i1 i2
    have hB := hd _ i3 i4
    have hA' : -((k + 1 : Nat) : Int) ≤ (if x.2.1 = 0 then st.dA + x.2.2 else st.dA) ∧ (if x.2.1 = 0 then st.dA + x.2.2 else st.dA) ≤ ((k + 1 : Nat) : Int) := by
      split
      · exact hA
      · omega
    have hB' : -((k + 1 : Nat) : Int) ≤ (if x.2.1 = 0 then st.dB else st.dB + x.2.2) ∧ (if x.2.1 = 0 then st.dB else st.dB + x.2.2) ≤ ((k + 1 : Nat) : Int) := by
      split
      · omega
      · exact hB
    cases q with
    | false =>
      rw [swStep_false]
      exact ⟨hA'.1, hA'.2, hB'.1, hB'.2, i5, i6, i7, by simp only; omega⟩
    | true =>
      obtain ⟨now, h⟩ := swStep_true keep st x
      rw [h]
      refine ⟨hA'.1, hA'.2, hB'.1, hB'.2, ?_, ?_, ?_, ?_⟩
      · simp only; split <;> assumption
      · simp only; split <;> assumption
      · simp only
        split
        · intro e he
          rcases List.mem_append.1 he with h | h
          · exact i7 e h
          · rw [List.mem_singleton.1 h]; simp only; omega
        · exact i7
      · simp only
        split
        · rw [List.length_append, List.length_singleton]; omega
        · omega
theorem opL_bound (keep : Bool → Bool → Bool) (a b : List Ext) : (∀ e ∈ opL keep a b, 0 ≤ e.1 ∧ 0 < e.2 ∧ e.1 + e.2 ≤ 4096) ∧ (opL keep a b).length ≤ 4096 := by
  have h := runsL_bound 4096 (below (fun x => keep (a.any (inExt x)) (b.any (inExt x))) 4096) (fun x hx => by have := below_lt _ _ x hx; omega)
  refine ⟨h.1, Nat.le_trans h.2 ?_⟩
  unfold below
  rw [List.length_map]
  exact Nat.le_trans (List.length_filter_le _ _) (by rw [List.length_range]; exact Nat.le_refl _)
end Go.Proofs.Ytjehedfdikdfpaa
namespace Go.Proofs.Ytjehedfdikdfpaa

/-- whether two nodes at the same place differ -/
def df (a b : List (List Int)) (k i : Nat) : Bool := (a.getD k []).getD i 0 != (b.getD k []).getD i 0
/-- the nodes below some nodes, at a level of n nodes -/
def kids (n : Nat) (p : List Nat) : List Nat := p.flatMap fun i => if 2 * i + 1 < n then [2 * i, 2 * i + 1] else [2 * i]
/-- the leaves that are found from the nodes that are visited at a level -/
def fnd (a b : List (List Int)) : Nat → List Nat → List Nat
  | 0, v => v.filter (df a b 0)
  | k + 1, v => fnd a b k (kids (a.getD k []).length (v.filter (df a b (k + 1))))
def difN (a b : List (List Int)) : List Nat := fnd a b (a.length - 1) [0]
theorem kids_len (n : Nat) (p : List Nat) : (kids n p).length ≤ 2 * p.length := by
  induction p with
  | nil => simp [kids]
  | cons x r ih =>
    have : kids n (x :: r) = (if 2 * x + 1 < n then [2 * x, 2 * x + 1] else [2 * x]) ++ kids n r := rfl
    rw [this, List.length_append, List.length_cons]
    split <;> simp <;> omega
theorem kids_lt {n m : Nat} {p : List Nat} (hm : m = (n + 1) / 2) (h : ∀ i ∈ p, i < m) : ∀ j ∈ kids n p, j < n := by
  intro j hj
  obtain ⟨i, hi, hj⟩ := List.mem_flatMap.1 hj
  have := h i hi
  split at hj
  · simp at hj; omega
  · simp at hj; omega
theorem kids_snoc (n : Nat) (p : List Nat) (i : Nat) : kids n (p ++ [i]) = kids n p ++ (if 2 * i + 1 < n then [2 * i, 2 * i + 1] else [2 * i]) := by simp [kids]
def toI (l : List Nat) : List Int := l.map fun (i : Nat) => (i : Int)
theorem kids_take_succ (n : Nat) {p : List Nat} {k : Nat} (h : k < p.length) : kids n (p.take (k + 1)) = kids n (p.take k) ++ (if 2 * p[k] + 1 < n then [2 * p[k], 2 * p[k] + 1] else [2 * p[k]]) := by
  rw [List.take_succ_eq_append_getElem h, kids_snoc]
theorem toI_len (l : List Nat) : (toI l).length = l.length := by simp [toI]
theorem toI_at {l : List Nat} {k : Nat} (h : k < l.length) : (toI l)[k]'(by rw [toI_len]; exact h) = (l[k] : Int) := by simp [toI]
theorem toI_app (l m : List Nat) : toI (l ++ m) = toI l ++ toI m := by simp [toI]
def leafE (n m i : Nat) : Ext := ((i * m : Nat), ((min m (n - i * m) : Nat) : Int))
def difE (a b : Tr) : List Ext := (difN a.2.2 b.2.2).map (leafE a.1.toNat a.2.1.toNat)
def difErr (a b : Tr) : Int := if checkT a ≠ 0 then checkT a else if checkT b ≠ 0 then checkT b else if a.1 ≠ b.1 ∨ a.2.1 ≠ b.2.1 then 22 else 0
def difT (a b : Tr) : List Ext := if difErr a b = 0 then opL or (difE a b) [] else []
end Go.Proofs.Ytjehedfdikdfpaa
namespace Go.Proofs.Ytjehedfdikdfpaa

/-- the pending nodes whose digests are others -/
def dfr (lev : List Int) : List Int → List Nat → List Nat
  | _, [] => []
  | b, n :: ns => (if b.take 8 = le8 (lev.getD n 0) then [] else [n]) ++ dfr lev (b.drop 8) ns
theorem dfr_snoc (lev : List Int) (x : Nat) : ∀ (ns : List Nat) (b : List Int), dfr lev b (ns ++ [x]) = dfr lev b ns ++ (if (b.drop (8 * ns.length)).take 8 = le8 (lev.getD x 0) then [] else [x])
  | [], b => by simp [dfr]
  | n :: ns, b => by
    rw [List.cons_append]
    show (if b.take 8 = le8 (lev.getD n 0) then [] else [n]) ++ dfr lev (b.drop 8) (ns ++ [x]) = (if b.take 8 = le8 (lev.getD n 0) then [] else [n]) ++ dfr lev (b.drop 8) ns ++ _
    rw [dfr_snoc lev x ns, List.append_assoc, List.drop_drop, List.length_cons, show 8 + 8 * ns.length = 8 * (ns.length + 1) from by omega]
theorem dfr_len (lev : List Int) : ∀ (ns : List Nat) (b : List Int), (dfr lev b ns).length ≤ ns.length
  | [], b => by simp [dfr]
  | n :: ns, b => by
    unfold dfr
    rw [List.length_append, List.length_cons]
    have := dfr_len lev ns (b.drop 8)
    split <;> simp <;> omega
end Go.Proofs.Ytjehedfdikdfpaa
namespace Go.Proofs.Ytjehedfdikdfpaa
def numsL (l : List Ext) : List Nat := l.flatMap fun x => (List.range x.2.toNat).map fun i => x.1.toNat + i
theorem numsL_app (a b : List Ext) : numsL (a ++ b) = numsL a ++ numsL b := by simp [numsL]
theorem numsL_take_succ {l : List Ext} {k : Nat} (hk : k < l.length) : numsL (l.take (k + 1)) = numsL (l.take k) ++ (List.range l[k].2.toNat).map fun i => l[k].1.toNat + i := by
  rw [List.take_succ_eq_append_getElem hk, numsL_app]; simp [numsL]
theorem numsL_len_take {l : List Ext} {k m : Nat} (hk : k < l.length) (hm : m < l[k].2.toNat) : (numsL (l.take k)).length + m < (numsL l).length := by
  have e : numsL l = numsL (l.take k) ++ ((List.range l[k].2.toNat).map fun i => l[k].1.toNat + i) ++ numsL (l.drop (k + 1)) := by
    rw [← numsL_take_succ hk, ← numsL_app, List.take_append_drop]
  rw [e]; simp; omega
theorem numsL_mem {l : List Ext} {k m : Nat} (hk : k < l.length) (hm : m < l[k].2.toNat) : l[k].1.toNat + m ∈ numsL l := by
  unfold numsL
  exact List.mem_flatMap.2 ⟨l[k], List.getElem_mem hk, List.mem_map.2 ⟨m, List.mem_range.2 hm, rfl⟩⟩
end Go.Proofs.Ytjehedfdikdfpaa
namespace Go.Proofs.Ytjehedfdikdfpaa

/-- the error of a list that has to be canonical -/
def exE (size : Int) : Int → List Ext → Int
  | _, [] => 0
  | next, e :: l => if e.2 ≤ 0 then 1 else if e.1 < 0 ∨ size - e.1 < e.2 then 2 else if e.1 < next then 3 else exE size (e.1 + e.2 + 1) l
def extE (l : List Ext) (size : Int) : Int := if size < 0 ∨ 4096 < size then 2 else exE size 0 l
def nextE (next : Int) (l : List Ext) : Int := (l.getLast?.map fun e => e.1 + e.2 + 1).getD next
theorem exE_app {size : Int} {m : List Ext} : ∀ {l : List Ext} {a : Int}, exE size a l ≠ 0 → exE size a (l ++ m) = exE size a l
  | [], a, h => by simp [exE] at h
  | e :: l, a, h => by
    rw [List.cons_append]
    unfold exE at h ⊢
    split
    · rfl
    · split
      · rfl
      · split
        · rfl
        · rename_i h1 h2 h3
          rw [if_neg h1, if_neg h2, if_neg h3] at h
          exact exE_app h
theorem exE_snoc {size : Int} (e : Ext) : ∀ {l : List Ext} {a : Int}, exE size a l = 0 → exE size a (l ++ [e]) = if e.2 ≤ 0 then 1 else if e.1 < 0 ∨ size - e.1 < e.2 then 2 else if e.1 < nextE a l then 3 else 0
  | [], a, _ => rfl
  | y :: l, a, h => by
    have h0 := h
    unfold exE at h
    split at h
    · omega
    · split at h
      · omega
      · split at h
        · omega
        · rename_i h1 h2 h3
          rw [List.cons_append]
          show (if y.2 ≤ 0 then 1 else if y.1 < 0 ∨ size - y.1 < y.2 then 2 else if y.1 < a then 3 else exE size (y.1 + y.2 + 1) (l ++ [e])) = _
          rw [if_neg h1, if_neg h2, if_neg h3, exE_snoc e h]
          have e1 : nextE a (y :: l) = nextE (y.1 + y.2 + 1) l := by
            unfold nextE
            cases l with
            | nil => rfl
            | cons z l =>
              rw [List.getLast?_cons_cons]
              obtain ⟨u, hu⟩ : ∃ u, (z :: l).getLast? = some u := ⟨_, List.getLast?_eq_some_getLast (by simp)⟩
              rw [hu]; rfl
          rw [e1]
theorem exE_mem {size : Int} : ∀ {l : List Ext} {a : Int}, exE size a l = 0 → (∀ e ∈ l, a ≤ e.1 ∧ 0 ≤ e.1 ∧ 0 < e.2 ∧ e.1 + e.2 ≤ size) ∧ l.Pairwise fun x y => x.1 + x.2 < y.1
  | [], _, _ => ⟨by simp, List.Pairwise.nil⟩
  | y :: l, a, h => by
    unfold exE at h
    split at h
    · omega
    · split at h
      · omega
      · split at h
        · omega
        · obtain ⟨i1, i2⟩ := exE_mem h
          refine ⟨fun e he => ?_, List.Pairwise.cons (fun z hz => ?_) i2⟩
          · rcases List.mem_cons.1 he with rfl | he
            · omega
            · have := i1 e he; omega
          · have := i1 z hz; omega
end Go.Proofs.Ytjehedfdikdfpaa
namespace Go.Proofs.Ytjehedfdikdfpaa
theorem take_step {α : Type} {l m : List α} {k : Nat} (h1 : k < l.length) (h2 : k < m.length) (h : l.take k = m.take k) (he : l[k] = m[k]) : l.take (k + 1) = m.take (k + 1) := by
  rw [List.take_succ_eq_append_getElem h1, List.take_succ_eq_append_getElem h2, h, he]
end Go.Proofs.Ytjehedfdikdfpaa
namespace Go.Proofs.Ytjehedfdikdfpaa
open Go.RowKit Go.Shelf
attribute [local go_sem] Oper.semAt_some

def chE (l : List Sec) (m b off : Nat) (k : Nat) : Array Value := #[.slice (some ⟨b, off + k * m * 8, none⟩) (leafAt l m k).length (leafAt l m k).length]
theorem leaf_end {n m k : Nat} (hm : 1 ≤ m) (h : ¬ k * m < n) (hk : k ≤ leavesN n m) : k = leavesN n m := by
  refine Nat.le_antisymm hk ?_
  refine Nat.le_of_lt_succ ((Nat.div_lt_iff_lt_mul (by omega)).2 ?_)
  rw [Nat.succ_mul]; omega
theorem leaf_lt' {n m k : Nat} (hm : 1 ≤ m) (h : k * m < n) : k < leavesN n m := (Nat.le_div_iff_mul_le (by omega)).2 (by rw [Nat.succ_mul]; omega)
def KpC (Bs Bn : Nat) (W W' : World) : Prop := W'.cell? ⟨Bs, 0, none⟩ = W.cell? ⟨Bs, 0, none⟩ ∧ W'.cell? ⟨Bn, 0, none⟩ = W.cell? ⟨Bn, 0, none⟩
theorem KpC.trans {Bs Bn : Nat} {W W' W'' : World} (h : KpC Bs Bn W W') (k : KpC Bs Bn W' W'') : KpC Bs Bn W W'' := ⟨k.1.trans h.1, k.2.trans h.2⟩
theorem KpC.blk {Bs Bn : Nat} {W W' : World} (h1 : W'.heap[Bs]? = W.heap[Bs]?) (h2 : W'.heap[Bn]? = W.heap[Bn]?) : KpC Bs Bn W W' := ⟨World.cell?_of_block h1, World.cell?_of_block h2⟩
set_option maxRecDepth 100000 in
set_option maxHeartbeats 4000000 in
theorem chunk_in (n : Nat) (hn : 1 ≤ n) (y Bs Bn c b off m : Nat) (l : List Sec) (hm1 : 1 ≤ m) (hm2 : m ≤ 4096) (hl1 : 1 ≤ l.length) (hlen : l.length ≤ 4096) (hc : l.length ≤ c) (hc2 : c ≤ maxLen) (J Jx : List Nat → World → Prop)
    (hY : ∀ pre x W, J pre W → pre.length < leavesN l.length m → YieldAt Fence.wide (n - 1) Try.prog y (chE l m b off x) W fun e W' =>
      (e = .returned (.bool true) ∧ J (pre ++ [x]) W' ∧ KpC Bs Bn W W') ∨ (e = .returned (.bool false) ∧ Jx (pre ++ [x]) W'))
    (W : World) (hcs : W.cell? ⟨Bs, 0, none⟩ = some (.slice (some ⟨b, off, none⟩) l.length c)) (hcn : W.cell? ⟨Bn, 0, none⟩ = some (.int .i64 m)) (hJd : ∀ pre W, J pre W → J pre W.drew) (h0 : J [] W) :
    CallsIn Fence.wide n Try.prog 88 #[.func (.yield y) #[] #[], .pointer (some ⟨Bs, 0, none⟩), .pointer (some ⟨Bn, 0, none⟩)] W fun e W' => (∃ v, e = .returned v) ∧
      ((∃ ys : List Nat, ys = List.range (leavesN l.length m) ∧ J ys W') ∨ (∃ pre : List Nat, True ∧ Jx pre W')) := by
  unfold maxLen at hc2
  refine callsIn_of_wp Try.func88 rfl trivial ?_ rfl
  simp only [Try.ntmps88, List.size_toArray, List.length_cons, List.length_nil, Nat.reduceAdd, Nat.reduceSub, Array.replicate_succ, Array.replicate_zero, List.push_toArray, List.append_toArray, List.nil_append, List.cons_append]
  gi_wp2
  gi_loopw [4] (fun i wr => ∃ (k q : Nat), k ≤ leavesN l.length m ∧ Hid (q = k * m) ∧ i = .int .i64 (q : Int) ∧ q ≤ 10000 ∧ J (List.range k) wr ∧ KpC Bs Bn W wr) (fun i _ => l.length - (intOf i).toNat)
  case atStart => exact ⟨0, 0, Nat.zero_le _, by simp [Hid], rfl, by omega, h0, rfl, rfl⟩
  case round =>
    obtain ⟨k, q, hk, hq, rfl, hq2, hJs, hB⟩ := hrel
    have hcs' := hB.1.trans hcs
    have hcn' := hB.2.trans hcn
    clear hcs hcn
    have hnn : (0 : Int) ≤ q := by omega
    by_cases hlt : q < l.length
    · have hki : (q : Int) < l.length := by omega
      have hkn : k < leavesN l.length m := leaf_lt' hm1 (by rw [← hq.out]; exact hlt)
      obtain ⟨fn, tmps, assign, body, hy, hR⟩ := hY (List.range k) k wr.drew (hJd _ _ hJs) (by rw [List.length_range]; exact hkn)
      have hll := Lib.hid (leafAt_len l m k)
      by_cases hend : q + m ≤ l.length
      · have hE : chE l m b off k = #[.slice (some ⟨b, off + q * 8, none⟩) m m] := by
          unfold chE
          rw [hll.out, ← hq.out, Nat.min_eq_left (by omega)]
        rw [hE] at hy
        have hle : (m : Int) ≤ ((l.length - q : Nat) : Int) := by omega
        have hqm : ((q : Int) + m) ≤ (c : Int) := by omega
        clear hE
        gi_wp2
        gi_region
        gi_wp2
        refine hR.mono ?_
        have HY := Lib.hid hy; clear hy
        rintro e W3 (⟨rfl, hJ3, hk3⟩ | ⟨rfl, hJx3⟩)
        · have hcs3 : W3.cell? ⟨Bs, 0, none⟩ = _ := hk3.1.trans hcs'
          have hcn3 : W3.cell? ⟨Bn, 0, none⟩ = _ := hk3.2.trans hcn'
          gi_wp2
          go_roundw
          case rel => exact ⟨k + 1, q + m, hkn, by rw [Hid, hq.out, Nat.succ_mul], by go_num, by omega, by rw [List.range_succ]; exact hJ3, hB.trans hk3⟩
          case measure => simp [intOf]; omega
        · gi_wp2
          refine bodyPost_ret (results_none rfl _ _ _) rfl ?_
          exact ⟨⟨_, rfl⟩, .inr ⟨_, trivial, hJx3⟩⟩
      · have hE : chE l m b off k = #[.slice (some ⟨b, off + q * 8, none⟩) (l.length - q) (l.length - q)] := by
          unfold chE
          rw [hll.out, ← hq.out, Nat.min_eq_right (by omega)]
        rw [hE] at hy
        have hle : ¬ (m : Int) ≤ ((l.length - q : Nat) : Int) := by omega
        clear hE
        gi_wp2
        gi_region
        gi_wp2
        refine hR.mono ?_
        have HY := Lib.hid hy; clear hy
        rintro e W3 (⟨rfl, hJ3, hk3⟩ | ⟨rfl, hJx3⟩)
        · have hcs3 : W3.cell? ⟨Bs, 0, none⟩ = _ := hk3.1.trans hcs'
          have hcn3 : W3.cell? ⟨Bn, 0, none⟩ = _ := hk3.2.trans hcn'
          gi_wp2
          go_roundw
          case rel => exact ⟨k + 1, q + m, hkn, by rw [Hid, hq.out, Nat.succ_mul], by go_num, by omega, by rw [List.range_succ]; exact hJ3, hB.trans hk3⟩
          case measure => simp [intOf]; omega
        · gi_wp2
          refine bodyPost_ret (results_none rfl _ _ _) rfl ?_
          exact ⟨⟨_, rfl⟩, .inr ⟨_, trivial, hJx3⟩⟩
    · have hke : k = leavesN l.length m := leaf_end hm1 (by rw [← hq.out]; exact hlt) hk
      have hki : (l.length : Int) ≤ (q : Int) := by omega
      gi_wp2
      go_end0
      exact ⟨⟨_, rfl⟩, .inl ⟨List.range k, by rw [hke], hJs⟩⟩
theorem chunk_stops (n : Nat) (hn : 1 ≤ n) (Bs Bn c b off m : Nat) (l : List Sec) (hm1 : 1 ≤ m) (hm2 : m ≤ 4096) (hl1 : 1 ≤ l.length) (hlen : l.length ≤ 4096) (hc : l.length ≤ c) (hc2 : c ≤ maxLen) (w : World) (hBs : Bs < w.heap.size) (hBn : Bn < w.heap.size)
    (hcs : w.cell? ⟨Bs, 0, none⟩ = some (.slice (some ⟨b, off, none⟩) l.length c)) (hcn : w.cell? ⟨Bn, 0, none⟩ = some (.int .i64 m)) :
    SeqStopsT (fun _ => False) Fence.wide n Try.prog 88 #[.pointer (some ⟨Bs, 0, none⟩), .pointer (some ⟨Bn, 0, none⟩)] (chE l m b off) (KpC Bs Bn) (fun ys => ys = List.range (leavesN l.length m)) (fun _ => True) (leavesN l.length m) w :=
  fun y J Jx W hW hJ hJx hY h0 => chunk_in n hn y Bs Bn c b off m l hm1 hm2 hl1 hlen hc hc2 J Jx hY W ((hW.cell (p := ⟨Bs, 0, none⟩) hBs).trans hcs) ((hW.cell (p := ⟨Bn, 0, none⟩) hBn).trans hcn)
    (fun s W h => hJ s W _ none h ⟨rfl, rfl, rfl, Nat.le_refl _, fun _ _ _ => rfl⟩ (fun r e => by cases e)) h0
theorem chunk_any (A : Option Addr) (n c : Nat) (m : Int) (hm : 1 ≤ m) (w : World) : Calls Try.prog 78 #[.slice A n c, .int .i64 m] w fun e w' => e = .returned (.func (.func 88) #[] #[.pointer (some ⟨w.heap.size, 0, none⟩), .pointer (some ⟨w.heap.size + 1, 0, none⟩)]) ∧ w' = (w.alloc (.cells #[.slice A n c] 69)).alloc (.cells #[.int .i64 m] 3) := by
  go_enter Try.func78, Try.ntmps78
  go_wp2
  go_ret
  exact ⟨rfl, rfl⟩
end Go.Proofs.Ytjehedfdikdfpaa
