/-
  The reference's Build: the walk.
-/
import Derived.Test.YthneomehfmjbkaaHj
set_option linter.unusedVariables false
set_option linter.unusedSimpArgs false
set_option linter.unusedSectionVars false
set_option linter.unnecessarySimpa false
namespace Go.Proofs.Ythneomehfmjbkaa
open Go.RowKit Go.Shelf
attribute [local go_sem] Oper.semAt_some

/-- a tree and a number -/
def TreeRetE (t : Tr) (n : Int) (lo : Nat) (w : World) (e : Ending) (w' : World) : Prop :=
  ∃ A c, e = .returned (.tuple #[.agg #[.int .i64 t.1, .int .i64 t.2.1, .slice A t.2.2.length c], .int .i64 n]) ∧ t.2.2.length ≤ c ∧ c ≤ maxLen ∧ SlAt (encSl encU64) w' (Nw lo w'.heap.size) A t.2.2 ∧ Below w.heap.size w w'
theorem limN_cases (a b : Int) : (limN a b = 2 ∧ (a < 1 ∨ 4096 < a)) ∨ (limN a b = 1 ∧ 1 ≤ a ∧ a ≤ 4096 ∧ (b < 1 ∨ 4096 < b)) ∨ (limN a b = 0 ∧ 1 ≤ a ∧ a ≤ 4096 ∧ 1 ≤ b ∧ b ≤ 4096) := by
  unfold limN
  by_cases h1 : a < 1 ∨ 4096 < a
  · rw [if_pos h1]; exact .inl ⟨rfl, h1⟩
  · rw [if_neg h1]
    by_cases h2 : b < 1 ∨ 4096 < b
    · rw [if_pos h2]; exact .inr (.inl ⟨rfl, by omega, by omega, h2⟩)
    · rw [if_neg h2]; exact .inr (.inr ⟨rfl, by omega, by omega, by omega, by omega⟩)
theorem buildT_err {l : List Sec} {m : Int} (h : limN l.length m ≠ 0) : buildT l m = zTree := by unfold buildT buildErr; rw [if_neg h]
theorem buildT_ok {l : List Sec} {m : Int} (h : limN l.length m = 0) : buildT l m = ((l.length : Int), m, levels (digests l m.toNat)) := by unfold buildT buildErr; rw [if_pos h]
def digTo (l : List Sec) (m k : Nat) : List Int := (List.range k).map fun i => digS (leafAt l m i)
theorem digTo_succ (l : List Sec) (m k : Nat) : digTo l m (k + 1) = digTo l m k ++ [digS (leafAt l m k)] := by simp [digTo, List.range_succ]
theorem digTo_len (l : List Sec) (m k : Nat) : (digTo l m k).length = k := by simp [digTo]
theorem leavesN_le {n m : Nat} (hm : 1 ≤ m) : leavesN n m ≤ n := by
  unfold leavesN
  refine Nat.le_of_lt_succ ((Nat.div_lt_iff_lt_mul (by omega)).2 ?_)
  have : n.succ * 1 ≤ n.succ * m := Nat.mul_le_mul_left _ hm
  have h2 : n.succ * m = n * m + m := Nat.succ_mul n m
  have h3 : n * 1 ≤ n * m := Nat.mul_le_mul_left _ hm
  omega
theorem leavesN_pos {n m : Nat} (hn : 1 ≤ n) (hm : 1 ≤ m) : 1 ≤ leavesN n m := (Nat.le_div_iff_mul_le (by omega)).2 (by omega)
def set3 (W : World) (b : Nat) (u v t : Value) : World := ((W.setCell ⟨b, 0, none⟩ u).setCell ⟨b, 1, none⟩ v).setCell ⟨b, 2, none⟩ t
theorem treeRetE_end {w W : World} {b lo : Nat} {c0 c1 c2 : Value} (hrow : W.heap[b]? = some (.cells #[c0, c1, c2] 26 (0, 0))) (hb : w.heap.size ≤ b) (hB : Below w.heap.size w W) (t : Tr) (A : Option Addr) (c : Nat) (n : Int) (h1 : t.2.2.length ≤ c) (h2 : c ≤ maxLen)
    (hs : SlAt (encSl encU64) W (fun g => Nw lo W.heap.size g ∧ g ≠ b) A t.2.2) :
    (set3 W b (.int .i64 t.1) (.int .i64 t.2.1) (.slice A t.2.2.length c)).heap[b]? = some (.cells #[.int .i64 t.1, .int .i64 t.2.1, .slice A t.2.2.length c] 26 (0, 0)) ∧
    TreeRetE t n lo w (.returned (.tuple #[.agg #[.int .i64 t.1, .int .i64 t.2.1, .slice A t.2.2.length c], .int .i64 n])) (set3 W b (.int .i64 t.1) (.int .i64 t.2.1) (.slice A t.2.2.length c)) := by
  refine ⟨blk3_all hrow _ _ _, A, c, rfl, h1, h2, (hs.blk (fun g hg => blk3_other hg.2 _ _ _)).more (fun g hg => ?_), ((hB.setCell (p := ⟨b, 0, none⟩) hb _).setCell (p := ⟨b, 1, none⟩) hb _).setCell (p := ⟨b, 2, none⟩) hb _⟩
  have e : (set3 W b (.int .i64 t.1) (.int .i64 t.2.1) (.slice A t.2.2.length c)).heap.size = W.heap.size := by simp [set3, World.setCell]
  rw [e]; exact hg.1
set_option maxHeartbeats 4000000 in
theorem refBuild_any (A : Option Addr) (c n : Nat) (l : List Sec) (leaf : Int) (w : World) (hn : l.length = n) (hc : n ≤ c ∧ c ≤ maxLen) (h1 : SlAt encSec w (Bl w.heap.size) A l) (hl : n ≤ 100000) (hlf : I64 leaf) :
    Calls Try.prog 14 #[.slice A n c, .int .i64 leaf] w (TreeRetE (buildT l leaf) (buildErr l leaf) w.heap.size w) := by
  subst hn
  unfold I64 at hlf
  obtain ⟨hlf1, hlf2⟩ := hlf
  have hl2 : ((l.length : Nat) : Int) ≤ 100000 := by omega
  have HL := Lib.hid (limN_cases l.length leaf)
  obtain ⟨W0, hW0⟩ : ∃ W0, w.alloc (.cells #[.int .i64 0, .int .i64 0, .slice none 0 0] 26) = W0 := ⟨_, rfl⟩
  have hrow0 : W0.heap[w.heap.size]? = some (.cells #[.int .i64 0, .int .i64 0, .slice none 0 0] 26 (0, 0)) := by rw [← hW0]; exact heap_alloc_new _ _
  have hs0 : W0.heap.size = w.heap.size + 1 := by rw [← hW0]; simp
  have hB0 : Below w.heap.size w W0 := by rw [← hW0]; exact ext_alloc (Below.refl _ _)
  have HS0 := Lib.hid hs0; clear hs0
  obtain ⟨r0, r1, r2, rf⟩ := blk3 hrow0
  have H1 : Hid (∀ w', Below W0.heap.size W0 w' → SlAt encSec w' (Bl w.heap.size) A l) := fun w' hb => (h1.below hB0).below (hb.mono hB0.size)
  clear h1
  go_enter Try.func14, Try.ntmps14
  rcases HL.out with ⟨g1, g2⟩ | ⟨g1, g2, g3, g4⟩ | ⟨g1, g2, g3, g4, g5⟩
  · have HT : Hid (buildT l leaf = zTree) := buildT_err (by rw [g1]; decide)
    have HE : Hid (buildErr l leaf = 2) := g1
    rw [HT.out, HE.out]
    clear g1 HL
    by_cases g3 : ((l.length : Nat) : Int) < 1
    · go_wp2_with fail
      have hend := treeRetE_end (w := w) (lo := w.heap.size) hrow0 (Nat.le_refl w.heap.size) hB0 zTree none 0 2 (by simp [zTree]) (by decide) SlAt.nil_
      obtain ⟨hz, hret⟩ := hend
      change bodyPost _ _ _ _ _ (set3 W0 w.heap.size (.int .i64 (zTree : Tr).1) (.int .i64 (zTree : Tr).2.1) (.slice none (zTree : Tr).2.2.length 0))
      generalize set3 W0 w.heap.size (.int .i64 (zTree : Tr).1) (.int .i64 (zTree : Tr).2.1) (.slice none (zTree : Tr).2.2.length 0) = W3 at hz hret ⊢
      obtain ⟨z0, z1, z2, _⟩ := blk3 hz
      refine bodyPost_ret (v := .tuple #[.agg #[.int .i64 (zTree : Tr).1, .int .i64 (zTree : Tr).2.1, .slice none (zTree : Tr).2.2.length 0], .int .i64 2]) ?_ rfl ?_
      · simp [results, Try.results14, Try.f14, go_sem, z0, z1, z2, zTree]
      exact hret
    · go_wp2_with fail
      have hend := treeRetE_end (w := w) (lo := w.heap.size) hrow0 (Nat.le_refl w.heap.size) hB0 zTree none 0 2 (by simp [zTree]) (by decide) SlAt.nil_
      obtain ⟨hz, hret⟩ := hend
      change bodyPost _ _ _ _ _ (set3 W0 w.heap.size (.int .i64 (zTree : Tr).1) (.int .i64 (zTree : Tr).2.1) (.slice none (zTree : Tr).2.2.length 0))
      generalize set3 W0 w.heap.size (.int .i64 (zTree : Tr).1) (.int .i64 (zTree : Tr).2.1) (.slice none (zTree : Tr).2.2.length 0) = W3 at hz hret ⊢
      obtain ⟨z0, z1, z2, _⟩ := blk3 hz
      refine bodyPost_ret (v := .tuple #[.agg #[.int .i64 (zTree : Tr).1, .int .i64 (zTree : Tr).2.1, .slice none (zTree : Tr).2.2.length 0], .int .i64 2]) ?_ rfl ?_
      · simp [results, Try.results14, Try.f14, go_sem, z0, z1, z2, zTree]
      exact hret
  · have HT : Hid (buildT l leaf = zTree) := buildT_err (by rw [g1]; decide)
    have HE : Hid (buildErr l leaf = 1) := g1
    rw [HT.out, HE.out]
    clear g1 HL
    by_cases g5 : leaf < 1
    · go_wp2_with fail
      have hend := treeRetE_end (w := w) (lo := w.heap.size) hrow0 (Nat.le_refl w.heap.size) hB0 zTree none 0 1 (by simp [zTree]) (by decide) SlAt.nil_
      obtain ⟨hz, hret⟩ := hend
      change bodyPost _ _ _ _ _ (set3 W0 w.heap.size (.int .i64 (zTree : Tr).1) (.int .i64 (zTree : Tr).2.1) (.slice none (zTree : Tr).2.2.length 0))
      generalize set3 W0 w.heap.size (.int .i64 (zTree : Tr).1) (.int .i64 (zTree : Tr).2.1) (.slice none (zTree : Tr).2.2.length 0) = W3 at hz hret ⊢
      obtain ⟨z0, z1, z2, _⟩ := blk3 hz
      refine bodyPost_ret (v := .tuple #[.agg #[.int .i64 (zTree : Tr).1, .int .i64 (zTree : Tr).2.1, .slice none (zTree : Tr).2.2.length 0], .int .i64 1]) ?_ rfl ?_
      · simp [results, Try.results14, Try.f14, go_sem, z0, z1, z2, zTree]
      exact hret
    · go_wp2_with fail
      have hend := treeRetE_end (w := w) (lo := w.heap.size) hrow0 (Nat.le_refl w.heap.size) hB0 zTree none 0 1 (by simp [zTree]) (by decide) SlAt.nil_
      obtain ⟨hz, hret⟩ := hend
      change bodyPost _ _ _ _ _ (set3 W0 w.heap.size (.int .i64 (zTree : Tr).1) (.int .i64 (zTree : Tr).2.1) (.slice none (zTree : Tr).2.2.length 0))
      generalize set3 W0 w.heap.size (.int .i64 (zTree : Tr).1) (.int .i64 (zTree : Tr).2.1) (.slice none (zTree : Tr).2.2.length 0) = W3 at hz hret ⊢
      obtain ⟨z0, z1, z2, _⟩ := blk3 hz
      refine bodyPost_ret (v := .tuple #[.agg #[.int .i64 (zTree : Tr).1, .int .i64 (zTree : Tr).2.1, .slice none (zTree : Tr).2.2.length 0], .int .i64 1]) ?_ rfl ?_
      · simp [results, Try.results14, Try.f14, go_sem, z0, z1, z2, zTree]
      exact hret
  · obtain ⟨m, rfl⟩ : ∃ m : Nat, leaf = m := ⟨leaf.toNat, by omega⟩
    have HT : Hid (buildT l (m : Int) = ((l.length : Int), (m : Int), levels (digests l m))) := buildT_ok g1
    have HE : Hid (buildErr l (m : Int) = 0) := g1
    rw [HT.out, HE.out]
    clear g1 HL
    have hm1 : 1 ≤ m := by omega
    have hm2 : m ≤ 4096 := by omega
    have hn1 : 1 ≤ l.length := by omega
    have hn2 : l.length ≤ 4096 := by omega
    have HLP := Lib.hid (leavesN_pos hn1 hm1)
    have HLL := Lib.hid (leavesN_le (n := l.length) hm1)
    go_wp2_with fail
    go_loopw [6, 7] (fun v i wr => ∃ (k : Nat) (B : Option Addr) (vc : Nat) (out : List Int), k ≤ leavesN l.length m ∧ i = .int .i64 (k : Nat) ∧ v = .slice B out.length vc ∧ Below W0.heap.size W0 wr ∧ Hid (out = digTo l m k) ∧ Hid (OwnW encU64 wr W0.heap.size W0.heap.size 58 (.slice B out.length vc) out)) (fun _ i _ => leavesN l.length m - (intOf i).toNat)
    case atStart => exact ⟨0, none, 0, [], by omega, rfl, rfl, Below.refl _ _, rfl, OwnW.nil_⟩
    case round =>
      obtain ⟨wo, rfl⟩ : ∃ wo : World, wo = wr := ⟨_, rfl⟩
      obtain ⟨k, B, vc, out, hk, rfl, rfl, hB, hout, hown⟩ := hrel
      have HLV := Lib.hid (refLeaves_any l.length m wo ⟨hn1, hn2⟩ ⟨hm1, hm2⟩)
      obtain ⟨N, hN⟩ : ∃ N, leavesN l.length m = N := ⟨_, rfl⟩
      go_wp2_with fail
      refine HLV.out.mono ?_
      rintro e wo ⟨rfl, rfl⟩
      have hk2 := hk
      rw [hN] at hk2 ⊢
      have HN := Lib.hid hN; clear hN
      have hNl : N ≤ l.length := by rw [← HN.out]; exact HLL.out
      by_cases hlt : k < N
      · have hki : (k : Int) < N := by omega
        have hB1 := hB
        have hil : k * m < l.length := leaf_lt hm1 (by rw [HN.out]; exact hlt)
        have hsz1 := hB.size
        have HSC := Lib.hid (refSectors11_any A c l.length l m k wo rfl hil ((H1.out _ hB).more (fun b hb => Nat.lt_of_lt_of_le hb (Nat.le_trans hB0.size hB.size))) hc hl (by omega))
        go_wp2_with fail
        refine HSC.out.mono ?_
        rintro e wo ⟨⟨A2, c2, rfl, q2⟩, rfl⟩
        have hll : (leafAt l m k).length ≤ 100000 := by rw [leafAt_len]; omega
        obtain ⟨d, hd⟩ : ∃ d, digS (leafAt l m k) = d := ⟨_, rfl⟩
        have HD := Lib.hid (refSectors_dig A2 c2 _ (leafAt l m k) d wo rfl hd q2 hll)
        have HDR : Hid (U64 d) := by rw [← hd]; exact dig_range _
        have HDE := Lib.hid hd; clear hd q2 hll HSC
        go_wp2_with fail
        refine HD.out.mono ?_
        rintro e w3 ⟨rfl, hb3⟩
        have hs3 := hb3.size
        have hol : Hid (out.length = k) := by rw [Hid, hout.out]; exact digTo_len l m k
        have HO1 := Lib.hid (Own.alloc (OwnW.below hown.out hb3) (fun _ h => h.1.2) (.cells #[.int .u64 d] 58))
        have HRD : Hid (encU64.rd (w3.alloc (.cells #[.int .u64 d] 58)) (fun b => Nw W0.heap.size w3.heap.size b ∧ (Value.slice B out.length vc).ownBlock ≠ some b) [.int .u64 d] d) := ⟨rfl, HDR.out⟩
        go_wp2_with (at_builtin; refine Hid.out ?_)
        change wpList _ _ _ _ _ _
        refine wpList_app1 (E := encU64) tyU64s rfl _ _ rfl rfl HO1.out d _ rfl HRD.out (heap_alloc_new _ _) (fun _ h => by simp; have := h.1.2; omega) (by simp; omega) (by have := hol.out; unfold maxLen; omega) (by have := hol.out; omega) ?_
        intro A' c' w5 hown5 hg5 hat5
        have hlt1 : ∀ g, (Value.slice B out.length vc).ownBlock = some g → g < w3.heap.size := fun g hg => Nat.lt_of_lt_of_le (hown.out.lt g hg).2 hs3
        have hok5 := Lib.hid (OwnW.app (hown5.more (S' := fun b => Nw W0.heap.size (w3.alloc (.cells #[.int .u64 d] 58)).heap.size b ∧ (Value.slice B out.length vc).ownBlock ≠ some b) (fun b hb => ⟨hb.1.mono (Nat.le_refl _) (by simp), hb.2⟩) (OwnW_new hown5 hat5 hlt1 (by simp))) hg5 hat5)
        have hB5 := Lib.hid ((ext_alloc (o := .cells #[.int .u64 d] 58) (hB.trans (hb3.mono hsz1))).grown hg5 (by simp; omega) (fun g h => (hown.out.lt g h).1))
        clear hown5 hg5 hat5 hlt1 HO1 HRD HD
        go_wp2
        go_roundw
        case rel => exact ⟨k + 1, A', c', out ++ [d], by rw [HN.out]; omega, by go_num, by simp, hB5.out, by rw [Hid, digTo_succ, ← hout.out, HDE.out], by have := hok5.out; simpa [Hid] using this⟩
        case measure => simp only [intOf]; rw [HN.out]; omega
      · have hkk : k = N := by omega
        subst hkk
        have hki : ¬ ((k : Int) < k) := by omega
        obtain ⟨_, p1, p2, p3⟩ := hown.out.parts
        have hol : Hid (out.length = k) := by rw [Hid, hout.out]; exact digTo_len l m k
        have hs1 := hB.size
        have hdg : Hid (out = digests l m) := by rw [Hid, hout.out, ← HN.out]; rfl
        have HT := Lib.hid (refTree_any B vc out.length W0.heap.size (l.length : Int) (m : Int) out wo rfl (by have := HLP.out; have := HN.out; have := hol.out; omega) hs1 ⟨p1, p2⟩ p3 (by have := HLL.out; have := HN.out; have := hol.out; omega))
        clear p3
        go_wp2_with fail
        refine HT.out.mono ?_
        rintro e w4 ⟨A4, c4, rfl, t1, t2, t3, t4⟩
        have hrow4 : w4.heap[w.heap.size]? = some (.cells #[.int .i64 0, .int .i64 0, .slice none 0 0] 26 (0, 0)) := (t4.block _ (by have := HS0.out; omega)).trans ((hB.block _ (by have := HS0.out; omega)).trans hrow0)
        obtain ⟨u0, u1, u2, uf⟩ := blk3 hrow4
        have hB4 : Below w.heap.size w w4 := hB0.trans ((hB.trans (t4.mono hs1)).mono hB0.size)
        have T3 := Lib.hid (t3.more (S' := fun g => Nw w.heap.size w4.heap.size g ∧ g ≠ w.heap.size) (fun g hg => ⟨hg.mono hB0.size (Nat.le_refl _), by have := hg.1; have := HS0.out; omega⟩))
        clear t3 t4 HT
        go_wp2_with fail
        rw [← hdg.out]
        have hend := treeRetE_end (w := w) (lo := w.heap.size) hrow4 (Nat.le_refl w.heap.size) hB4 ((l.length : Int), (m : Int), levels out) A4 c4 0 t1 t2 T3.out
        obtain ⟨hz, hret⟩ := hend
        change bodyPost _ _ _ _ _ (set3 w4 w.heap.size (.int .i64 (((l.length : Int), (m : Int), levels out) : Tr).1) (.int .i64 (((l.length : Int), (m : Int), levels out) : Tr).2.1) (.slice A4 (((l.length : Int), (m : Int), levels out) : Tr).2.2.length c4))
        generalize set3 w4 w.heap.size (.int .i64 (((l.length : Int), (m : Int), levels out) : Tr).1) (.int .i64 (((l.length : Int), (m : Int), levels out) : Tr).2.1) (.slice A4 (((l.length : Int), (m : Int), levels out) : Tr).2.2.length c4) = W3 at hz hret ⊢
        obtain ⟨z0, z1, z2, _⟩ := blk3 hz
        refine bodyPost_ret (v := .tuple #[.agg #[.int .i64 (((l.length : Int), (m : Int), levels out) : Tr).1, .int .i64 (((l.length : Int), (m : Int), levels out) : Tr).2.1, .slice A4 (((l.length : Int), (m : Int), levels out) : Tr).2.2.length c4], .int .i64 0]) ?_ rfl ?_
        · simp [results, Try.results14, Try.f14, go_sem, z0, z1, z2, zTree]
        exact hret
end Go.Proofs.Ythneomehfmjbkaa
