/-
  Plain words: digests of lists of sectors, and trees of them. No program in sight.; Plain words: what a tree that is correct looks like; proofs, updates. No program in sight.; Plain words: the leaves that two trees differ in. No program in sight.; Owned lists of digests: stores, copies; Root.; The code's Differ: the walk.; Plain words: two sites that compare their trees by exchanging digests: what a walk finds, how many digests it sends. No program in sight.; Plain words: the bound for the digests that are sent; what the laws of comparing need of it. No program in sight.
-/
import Derived.Laws.Entries
import Derived.WalkKit
import Derived.WalkSpells
import Derived.WalkLawsBesides
import Derived.Lib.Hide
import Derived.Deep.QuietTactic
import Derived.BigQuiet
import Derived.StillTailTactics
import Derived.Deep.RegionHeld3
import Derived.Maps.AppendAt
import Derived.Deep.AppendLies
import Derived.IntWalk
import Derived.Laws.Closers25b
import Derived.RegionTactic
import Derived.BigRegion
import Derived.Deep.RegionLaw
import Derived.Deep.Cut
import Derived.Test.YtjehedfdikdfpaaProg
import Derived.ChangeKeysEq
import Derived.RangeFuncNested
import Derived.RangeFuncBound
import Derived.RangeFuncCalls
import Derived.RangeFuncLeaves
import Derived.RangeFuncBox
import Derived.Shelf.Abstract
import Derived.Shelf.RegionOpen
import Derived.OwnWalkIn
import Derived.TacticsInMore
import Derived.LoopNIn
import Derived.LoopIn
import Derived.Laws.OwnMore
import Derived.Sort.QuietIn
import Derived.Shelf.SlGeneric
import Derived.Shelf.SlSortCmp.NoneTotal
import Derived.Ground.SlsfProg
import Derived.Laws.IdiomCopy
import Derived.Lib.SliceRun
import Derived.Lib.AppendZerosOnto
import Derived.Laws.CopyOwn
import Derived.Laws.MakeOwn
import Derived.Deep.OwnRows
import Derived.Maps.RangeWalk
import Derived.OpenShut
import Derived.Carry
import Derived.ProofKit
import Derived.ChangeSame
import GoSem.Claim
import GoSem.ClaimJoined
import GoSem.ClaimMapViews
import Derived.JoinedTies
import Derived.KernelRfl
import Derived.Test.YtjehedfdikdfpaaZ01
import Derived.Test.YtjehedfdikdfpaaZ02
import Derived.Test.YtjehedfdikdfpaaZ03
import Derived.Test.YtjehedfdikdfpaaZ04
import Derived.Test.YtjehedfdikdfpaaZ05
import Derived.Test.YtjehedfdikdfpaaZ06
import Derived.Test.YtjehedfdikdfpaaZ07
import Derived.Test.YtjehedfdikdfpaaZ08
import Derived.Test.YtjehedfdikdfpaaZ09
import Derived.Test.YtjehedfdikdfpaaZ10
import Derived.Test.YtjehedfdikdfpaaZ11
import Derived.Test.YtjehedfdikdfpaaZ12
import Derived.Test.YtjehedfdikdfpaaZ21
set_option linter.unusedVariables false
set_option linter.unusedSimpArgs false
set_option linter.unusedSectionVars false
set_option linter.unnecessarySimpa false
namespace Go.Proofs.Ytjehedfdikdfpaa

def rootT (t : Tr) : Int := if checkT t ≠ 0 then 0 else (t.2.2.getLastD []).headD 0
end Go.Proofs.Ytjehedfdikdfpaa
namespace Go.Proofs.Ytjehedfdikdfpaa

theorem rootT_ok {s lf : Int} {l : List (List Int)} (h : checkT (s, lf, l) = 0) (h0 : 0 < l.length) (h1 : 0 < (l[l.length - 1]'(by omega)).length) : rootT (s, lf, l) = (l[l.length - 1]'(by omega))[0]'h1 := by
  have hl : l.getLastD [] = l[l.length - 1]'(by omega) := by
    rw [List.getLastD_eq_getLast?, List.getLast?_eq_getElem?, List.getElem?_eq_getElem (by omega)]; rfl
  unfold rootT
  rw [if_neg (by simpa using h)]
  show (l.getLastD []).headD 0 = _
  rw [hl]
  generalize l[l.length - 1]'(by omega) = x at h1 ⊢
  cases x with
  | nil => simp at h1
  | cons y r => rfl
end Go.Proofs.Ytjehedfdikdfpaa
namespace Go.Proofs.Ytjehedfdikdfpaa

/-- the same, from the nodes that differ at a level -/
def fndP (a b : List (List Int)) : Nat → List Nat → List Nat
  | 0, p => p
  | k + 1, p => fnd a b k (kids (a.getD k []).length p)
theorem fnd_eq (a b : List (List Int)) (k : Nat) (v : List Nat) : fnd a b k v = fndP a b k (v.filter (df a b k)) := by cases k <;> rfl
theorem filter_take_succ {α : Type} (f : α → Bool) {l : List α} {k : Nat} (h : k < l.length) : (l.take (k + 1)).filter f = (l.take k).filter f ++ (if f l[k] then [l[k]] else []) := by
  rw [List.take_succ_eq_append_getElem h, List.filter_append]
  congr 1
  by_cases hf : f l[k] = true <;> simp [hf]
end Go.Proofs.Ytjehedfdikdfpaa
namespace Go.Proofs.Ytjehedfdikdfpaa
open Go.RowKit Go.Shelf
attribute [local go_sem] Oper.semAt_some

set_option maxHeartbeats 4000000 in
theorem root_any (s lf : Int) (A : Option Addr) (c n : Nat) (l : List (List Int)) (r : Int) (w : World) (hn : l.length = n) (hr : rootT (s, lf, l) = r) (h1 : SlAt (encSl encU64) w (Bl w.heap.size) A l) (hs : n ≤ 100000) (hc : n ≤ c ∧ c ≤ maxLen) (hI : I64 s ∧ I64 lf) :
    Calls Try.prog 33 #[.agg #[.int .i64 s, .int .i64 lf, .slice A n c]] w fun e w' => e = .returned (.int .u64 r) ∧ Below w.heap.size w w' := by
  subst hn
  have HR := Lib.hid hr; clear hr
  have H1 : Hid (∀ w', Below w.heap.size w w' → SlAt (encSl encU64) w' (Bl w.heap.size) A l) := fun w' hb => h1.below hb
  clear h1
  obtain ⟨W0, hW0⟩ : ∃ W0, w.alloc (.cells #[.int .i64 s, .int .i64 lf, .slice A l.length c] 24) = W0 := ⟨_, rfl⟩
  have hB0 : Below w.heap.size w W0 := by rw [← hW0]; exact ext_alloc (Below.refl _ _)
  have hrow : W0.heap[w.heap.size]? = some (.cells #[.int .i64 s, .int .i64 lf, .slice A l.length c] 24 (0, 0)) := by rw [← hW0]; exact heap_alloc_new _ _
  obtain ⟨r0, r1, r2, rf⟩ := blk3 hrow
  have hb1 : w.heap.size < W0.heap.size := (Array.getElem?_eq_some_iff.1 hrow).1
  obtain ⟨x, hx⟩ : ∃ x, Hid (checkT (s, lf, l) = x) := ⟨_, rfl⟩
  have HCK := Lib.hid (check_any s lf A c l.length l x W0 rfl hx.out ((H1.out _ hB0).more (Bl.mono hB0.size)) hs hc hI)
  clear hrow rf
  go_enter Try.func33, Try.ntmps33
  go_wp2_with fail
  refine HCK.out.mono ?_
  rintro e w1 ⟨rfl, hB1⟩
  have q2 : w1.cell? ⟨w.heap.size, 2, none⟩ = some (.slice A l.length c) := (hB1.cell (p := ⟨w.heap.size, 2, none⟩) hb1).trans r2
  have hB2 : Below w.heap.size w w1 := hB0.trans (hB1.mono hB0.size)
  clear r0 r1 r2 HCK hB1
  by_cases hx0 : x = 0
  · have hx0' : (x != 0) = false := by simp [hx0]
    have hck : checkT (s, lf, l) = 0 := by rw [hx.out, hx0]
    obtain ⟨n', m', -, -, ht⟩ := checkT_TOk hck
    have hl0 := ht.ne
    have hk1 : l.length - 1 < l.length := by omega
    have ha := ht.at_ (l.length - 1) hk1
    have hk2 : (l[l.length - 1]'hk1).length = 1 := by rw [ha.1]; exact ha.2.1.2 (by omega)
    have hrt := Lib.hid (rootT_ok hck hl0 (by rw [hk2]; decide))
    obtain ⟨b, off, D', dc', rfl, hb', g0', hD', hd1', hd2'⟩ := (H1.out _ hB2).sl hk1
    obtain ⟨y, hy⟩ : ∃ y, Hid (y = l[l.length - 1]'hk1) := ⟨_, rfl⟩
    have hyl : y.length = 1 := by rw [hy.out]; exact hk2
    have hrt2 : Hid (rootT (s, lf, l) = y[0]'(by omega)) := by
      rw [Hid, hrt.out]
      have := hy.out
      subst this
      rfl
    rw [← hy.out] at g0' hD'
    obtain ⟨b2, off2, rfl, hb2, k0, ku⟩ := hD'.u64 (k := 0) (by omega)
    simp only [Nat.add_zero] at k0
    rw [hyl] at g0'
    have hkl : (l.length : Int) - 1 < l.length := by omega
    have hkn : (0 : Int) ≤ (l.length : Int) - 1 := by omega
    clear hck ht ha hk2 hrt hd1' hd2' hD'
    go_wp2_with fail
    go_ret
    rw [← HR.out, hrt2.out]
    exact ⟨rfl, hB2⟩
  · have hx0' : (x != 0) = true := by simp [hx0]
    have hrt : Hid (rootT (s, lf, l) = 0) := by rw [Hid, rootT, if_pos (by rw [hx.out]; exact hx0)]
    clear hx0
    go_wp2_with fail
    go_ret
    rw [← HR.out, hrt.out]
    exact ⟨rfl, hB2⟩
end Go.Proofs.Ytjehedfdikdfpaa
namespace Go.Proofs.Ytjehedfdikdfpaa
open Go.RowKit Go.Shelf
attribute [local go_sem] Oper.semAt_some

theorem blk6 {w : World} {b : Nat} {T : TypeId} {c0 c1 c2 c3 c4 c5 : Value} (h : w.heap[b]? = some (.cells #[c0, c1, c2, c3, c4, c5] T (0, 0))) :
    w.cell? ⟨b, 0, none⟩ = some c0 ∧ w.cell? ⟨b, 1, none⟩ = some c1 ∧ w.cell? ⟨b, 2, none⟩ = some c2 ∧ w.cell? ⟨b, 3, none⟩ = some c3 ∧ w.cell? ⟨b, 4, none⟩ = some c4 ∧ w.cell? ⟨b, 5, none⟩ = some c5 := by
  refine ⟨?_, ?_, ?_, ?_, ?_, ?_⟩ <;> exact cell_of_row _ _ _ _ _ _ h
theorem tyInts11 : SliceTy Try.prog 42 3 1 8 := sliceTy_mk (z := .int .i64 0) Try.underlying42 (by kernel_rfl) rfl (by decide)
def nil16 : Array Value := #[.slice none 0 0, .slice none 0 0, .slice none 0 0, .slice none 0 0, .slice none 0 0, .slice none 0 0, .slice none 0 0, .slice none 0 0, .slice none 0 0, .slice none 0 0, .slice none 0 0, .slice none 0 0, .slice none 0 0, .slice none 0 0, .slice none 0 0, .slice none 0 0]
theorem nil16_at : ∀ j : Nat, j < 16 → nil16[j]? = some (.slice none 0 0)
  | 0, _ => rfl
  | 1, _ => rfl
  | 2, _ => rfl
  | 3, _ => rfl
  | 4, _ => rfl
  | 5, _ => rfl
  | 6, _ => rfl
  | 7, _ => rfl
  | 8, _ => rfl
  | 9, _ => rfl
  | 10, _ => rfl
  | 11, _ => rfl
  | 12, _ => rfl
  | 13, _ => rfl
  | 14, _ => rfl
  | 15, _ => rfl
  | n + 16, h => by omega
theorem FRow.down {F L : Nat} {v : Value} {wr : World} (h : FRow F (L + 1) v wr) : FRow F L (.slice none 0 0) wr := by
  obtain ⟨cs, h1, h2, h3, h4⟩ := h
  exact ⟨cs, h1, h2, fun j hj => h3 j (by omega), h3 L (by omega)⟩
/-- the state of the walk over the levels: L levels are left -/
structure DifI (w wF : World) (F top : Nat) (l l' : List (List Int)) (L : Nat) (prev : List Nat) (wr : World) : Prop where
  bel : Below w.heap.size w wr
  keep : ∀ g, g < F → wr.heap[g]? = wF.heap[g]?
  size : F < wr.heap.size
  row : ∃ v, FRow F L v wr ∧ (L ≤ top → ∃ A c, v = .slice A prev.length c ∧ prev.length ≤ c ∧ c ≤ maxLen ∧ SlAt encInt wr (Nw (F + 1) wr.heap.size) A (toI prev))
  pr : L ≤ top → prev.length * 2 ^ L ≤ 4096 ∧ (∀ i ∈ prev, i < (l.getD L []).length) ∧ fndP l l' L prev = difN l l'
set_option maxHeartbeats 8000000 in
set_option maxRecDepth 100000 in
theorem differ_any (s lf s' lf' : Int) (A A' : Option Addr) (c c' n n' : Nat) (l l' : List (List Int)) (w : World) (hn : l.length = n) (hn' : l'.length = n') (h1 : SlAt (encSl encU64) w (Bl w.heap.size) A l) (h2 : SlAt (encSl encU64) w (Bl w.heap.size) A' l') (hs : n ≤ 100000) (hs' : n' ≤ 100000) (hc : n ≤ c ∧ c ≤ maxLen) (hc' : n' ≤ c' ∧ c' ≤ maxLen) (hI : I64 s ∧ I64 lf) (hI' : I64 s' ∧ I64 lf') :
    Calls Try.prog 32 #[.agg #[.int .i64 s, .int .i64 lf, .slice A n c], .agg #[.int .i64 s', .int .i64 lf', .slice A' n' c']] w (RetSlN encExt (difT (s, lf, l) (s', lf', l')) (difErr (s, lf, l) (s', lf', l')) w) := by
  subst hn hn'
  have H1 : Hid (∀ w', Below w.heap.size w w' → SlAt (encSl encU64) w' (Bl w.heap.size) A l) := fun w' hb => h1.below hb
  have H2 : Hid (∀ w', Below w.heap.size w w' → SlAt (encSl encU64) w' (Bl w.heap.size) A' l') := fun w' hb => h2.below hb
  clear h1 h2
  obtain ⟨W0, hW0⟩ : ∃ W0, ((w.alloc (.cells #[.int .i64 s, .int .i64 lf, .slice A l.length c] 24)).alloc (.cells #[.int .i64 s', .int .i64 lf', .slice A' l'.length c'] 24)).alloc (.cells #[.int .i64 s, .int .i64 lf, .slice A l.length c, .int .i64 s', .int .i64 lf', .slice A' l'.length c'] 24) = W0 := ⟨_, rfl⟩
  have hB0 : Below w.heap.size w W0 := by rw [← hW0]; exact ext_alloc (ext_alloc (ext_alloc (Below.refl _ _)))
  have a1 := heap_alloc_new w (.cells #[.int .i64 s, .int .i64 lf, .slice A l.length c] 24)
  have a2 := heap_alloc_new (w.alloc (.cells #[.int .i64 s, .int .i64 lf, .slice A l.length c] 24)) (.cells #[.int .i64 s', .int .i64 lf', .slice A' l'.length c'] 24)
  have a3 := heap_alloc_new ((w.alloc (.cells #[.int .i64 s, .int .i64 lf, .slice A l.length c] 24)).alloc (.cells #[.int .i64 s', .int .i64 lf', .slice A' l'.length c'] 24)) (.cells #[.int .i64 s, .int .i64 lf, .slice A l.length c, .int .i64 s', .int .i64 lf', .slice A' l'.length c'] 24)
  simp only [World.size_alloc] at a1 a2 a3
  have hrow : W0.heap[w.heap.size]? = some (.cells #[.int .i64 s, .int .i64 lf, .slice A l.length c] 24 (0, 0)) := by rw [← hW0]; exact (Below.heap_alloc _ _ _ (by simp; omega)).trans ((Below.heap_alloc _ _ _ (by simp)).trans a1)
  have hrow1 : W0.heap[w.heap.size + 1]? = some (.cells #[.int .i64 s', .int .i64 lf', .slice A' l'.length c'] 24 (0, 0)) := by rw [← hW0]; exact (Below.heap_alloc _ _ _ (by simp)).trans a2
  have hrow2 : W0.heap[w.heap.size + 1 + 1]? = some (.cells #[.int .i64 s, .int .i64 lf, .slice A l.length c, .int .i64 s', .int .i64 lf', .slice A' l'.length c'] 24 (0, 0)) := by rw [← hW0]; exact a3
  have HS0 : Hid (W0.heap.size = w.heap.size + 3) := by rw [← hW0]; simp [Hid]
  clear a1 a2 a3
  have HRW : Hid (∀ w', Below W0.heap.size W0 w' → w'.heap[w.heap.size]? = some (.cells #[.int .i64 s, .int .i64 lf, .slice A l.length c] 24 (0, 0)) ∧ w'.heap[w.heap.size + 1]? = some (.cells #[.int .i64 s', .int .i64 lf', .slice A' l'.length c'] 24 (0, 0)) ∧ w'.heap[w.heap.size + 1 + 1]? = some (.cells #[.int .i64 s, .int .i64 lf, .slice A l.length c, .int .i64 s', .int .i64 lf', .slice A' l'.length c'] 24 (0, 0))) := fun w' hb => ⟨(hb.block _ (by have := HS0.out; omega)).trans hrow, (hb.block _ (by have := HS0.out; omega)).trans hrow1, (hb.block _ (by have := HS0.out; omega)).trans hrow2⟩
  clear hrow hrow1 hrow2
  obtain ⟨x, hx⟩ : ∃ x, Hid (checkT (s, lf, l) = x) := ⟨_, rfl⟩
  obtain ⟨y, hy⟩ : ∃ y, Hid (checkT (s', lf', l') = y) := ⟨_, rfl⟩
  have HCK := Lib.hid (fun W (hb : Below w.heap.size w W) => check_any s lf A c l.length l x W rfl hx.out ((H1.out _ hb).more (Bl.mono hb.size)) hs hc hI)
  have HCK' := Lib.hid (fun W (hb : Below w.heap.size w W) => check_any s' lf' A' c' l'.length l' y W rfl hy.out ((H2.out _ hb).more (Bl.mono hb.size)) hs' hc' hI')
  obtain ⟨⟨hs1, hs2⟩, hf1, hf2⟩ := hI
  obtain ⟨⟨ht1, ht2⟩, hg1, hg2⟩ := hI'
  have HNL : ∀ n, Hid (difErr (s, lf, l) (s', lf', l') = n → n ≠ 0 → ∀ W, Below w.heap.size w W → RetSlN encExt (difT (s, lf, l) (s', lf', l')) (difErr (s, lf, l) (s', lf', l')) w (.returned (.tuple #[.slice none 0 0, .int .i64 n])) W) := fun n h hne W hb => by
    have : difT (s, lf, l) (s', lf', l') = [] := by unfold difT; rw [if_neg (by rw [h]; exact hne)]
    rw [this, h]
    exact ⟨none, 0, rfl, by simp, by simp, SlAt.nil_, hb⟩
  go_enter Try.func32, Try.ntmps32
  go_wp2_with fail
  go_loopw [7, 8, 24] (fun _ _ kk wr => ∃ k : Nat, k ≤ 2 ∧ kk = .int .i64 (k : Nat) ∧ Below W0.heap.size W0 wr ∧ Hid (1 ≤ k → x = 0) ∧ Hid (2 ≤ k → y = 0)) (fun _ _ kk _ => 2 - (intOf kk).toNat)
  case atStart => exact ⟨0, by omega, rfl, Below.refl _ _, fun h => by omega, fun h => by omega⟩
  case round =>
    obtain ⟨wo, rfl⟩ : ∃ wo : World, wo = wr := ⟨_, rfl⟩
    obtain ⟨k, hk, rfl, hBw, hx0, hy0⟩ := hrel
    obtain ⟨g1, g2, g3⟩ := HRW.out wo hBw
    have hBo : Below w.heap.size w wo := hB0.trans (hBw.mono hB0.size)
    have hk3 : k = 0 ∨ k = 1 ∨ k = 2 := by omega
    rcases hk3 with rfl | rfl | rfl
    · obtain ⟨q0, q1, q2, q3, q4, q5⟩ := blk6 g3
      go_wp2_with fail
      refine (HCK.out _ (ext_alloc hBo)).mono ?_
      rintro e w5 ⟨rfl, hb5⟩
      have hBn : Below w.heap.size w w5 := ext_trans (ext_alloc hBo) hb5
      have hBm : Below W0.heap.size W0 w5 := ext_trans (ext_alloc hBw) hb5
      clear q0 q1 q2 q3 q4 q5 hb5
      by_cases hx1 : x = 0
      · have hx1' : (x != 0) = false := by simp [hx1]
        have hX := Lib.hid hx1
        clear hx1
        go_wp2_with fail
        go_roundw
        case rel => exact ⟨1, by omega, by go_num, hBm, fun _ => hX.out, fun h => by omega⟩
        case measure => simp [intOf]
      · have hx1' : (x != 0) = true := by simp [hx1]
        have hE := Lib.hid ((HNL x).out (by unfold difErr; rw [hx.out, if_pos hx1]) hx1 w5 hBn)
        clear hx1
        go_wp2_with fail
        go_ret2
        exact hE.out
    · obtain ⟨q0, q1, q2, q3, q4, q5⟩ := blk6 g3
      go_wp2_with fail
      refine (HCK'.out _ (ext_alloc hBo)).mono ?_
      rintro e w5 ⟨rfl, hb5⟩
      have hBn : Below w.heap.size w w5 := ext_trans (ext_alloc hBo) hb5
      have hBm : Below W0.heap.size W0 w5 := ext_trans (ext_alloc hBw) hb5
      clear q0 q1 q2 q3 q4 q5 hb5
      by_cases hx1 : y = 0
      · have hx1' : (y != 0) = false := by simp [hx1]
        have hX := Lib.hid hx1
        clear hx1
        go_wp2_with fail
        go_roundw
        case rel => exact ⟨2, by omega, by go_num, hBm, fun _ => hx0.out (by omega), fun _ => hX.out⟩
        case measure => simp [intOf]
      · have hx1' : (y != 0) = true := by simp [hx1]
        have hE := Lib.hid ((HNL y).out (by unfold difErr; rw [hx.out, hy.out, if_neg (by rw [hx0.out (by omega)]; decide), if_pos hx1]) hx1 w5 hBn)
        clear hx1
        go_wp2_with fail
        go_ret2
        exact hE.out
    · have h22 : ((2 : Nat) : Int) = 2 := rfl
      rw [h22]
      clear h22
      have hxx := hx0.out (by omega)
      have hyy := hy0.out (by omega)
      have hck : checkT (s, lf, l) = 0 := by rw [hx.out, hxx]
      have hck' : checkT (s', lf', l') = 0 := by rw [hy.out, hyy]
      have HE1 : Hid (difErr (s, lf, l) (s', lf', l') = if s ≠ s' ∨ lf ≠ lf' then 22 else 0) := by unfold difErr; rw [Hid, hck, hck', if_neg (by decide), if_neg (by decide)]
      obtain ⟨r0, r1, r2, _⟩ := blk3 g1
      obtain ⟨e0, e1, e2, _⟩ := blk3 g2
      have hB1 : Below w.heap.size w wo := hBo
      obtain ⟨sn, m, rfl, rfl, ht⟩ := checkT_TOk hck
      obtain ⟨sn', m', rfl, rfl, ht'⟩ := checkT_TOk hck'
      have HT := Lib.hid ht
      have HT' := Lib.hid ht'
      have hm1 := ht.m1
      have hm2 := ht.m2
      have hn1 := ht.n1
      have hn2 := ht.n2
      have hl0 := ht.ne
      have hll := ht.len
      have hm1' := ht'.m2
      have hn2' := ht'.n2
      clear g1 g2 g3 ht ht' hck hck' HCK HCK' hxx hyy hx0 hy0
      by_cases hss : sn = sn'
      case neg =>
        have hss' : ((sn : Int) != (sn' : Int)) = true := by simp; omega
        have hE := Lib.hid ((HNL 22).out (by rw [HE1.out, if_pos (Or.inl (by omega))]) (by decide) wo hB1)
        clear hss
        go_wp2_with fail
        go_ret2
        exact hE.out
      by_cases hmm : m = m'
      case neg =>
        have hmm' : ((m : Int) != (m' : Int)) = true := by simp; omega
        have hss' : ((sn : Int) != (sn' : Int)) = false := by simp; omega
        have hE := Lib.hid ((HNL 22).out (by rw [HE1.out, if_pos (Or.inr (by omega))]) (by decide) wo hB1)
        clear hss hmm
        go_wp2_with fail
        go_ret2
        exact hE.out
      subst hss hmm
      have HE : Hid (difErr ((sn : Int), (m : Int), l) ((sn : Int), (m : Int), l') = 0) := by rw [Hid, HE1.out, if_neg (by omega)]
      clear HE1 HNL
      have hso := hBw.size
      have hso0 := HS0.out
      have hlo1 : w.heap.size < wo.heap.size := by omega
      have hlo2 : w.heap.size + 1 < wo.heap.size := by omega
      obtain ⟨top, htop⟩ : ∃ top, l.length = top + 1 := ⟨l.length - 1, by omega⟩
      have hti : (l.length : Int) - 1 = top := by omega
      have htl : top ≤ 12 := by omega
      have HTOP := Lib.hid htop; clear htop
      go_wp2_with fail
      obtain ⟨F, hF⟩ : ∃ F, F = wo.heap.size := ⟨_, rfl⟩
      obtain ⟨wF, hwF⟩ : ∃ wF, wo.alloc (.cells #[.slice none 0 0, .slice none 0 0, .slice none 0 0, .slice none 0 0, .slice none 0 0, .slice none 0 0, .slice none 0 0, .slice none 0 0, .slice none 0 0, .slice none 0 0, .slice none 0 0, .slice none 0 0, .slice none 0 0, .slice none 0 0, .slice none 0 0, .slice none 0 0] 115) = wF := ⟨_, rfl⟩
      rw [hwF, ← hF]
      have hFs : wF.heap.size = F + 1 := by rw [← hwF, hF]; simp
      have hBF : Below w.heap.size w wF := by rw [← hwF]; exact ext_alloc hB1
      have hFr : FRow F (top + 1) (.slice none 0 0) wF := by
        exact ⟨nil16, by rw [← hwF, hF]; exact heap_alloc_new _ _, rfl, fun j hj => nil16_at j (by omega), nil16_at _ (by omega)⟩
      have s0 : wF.cell? ⟨w.heap.size, 0, none⟩ = some (.int .i64 sn) := by rw [← hwF]; exact ((Below.refl _ _).alloc (Nat.le_refl _) _ |>.cell (p := ⟨w.heap.size, 0, none⟩) hlo1).trans r0
      have s1 : wF.cell? ⟨w.heap.size, 1, none⟩ = some (.int .i64 m) := by rw [← hwF]; exact ((Below.refl _ _).alloc (Nat.le_refl _) _ |>.cell (p := ⟨w.heap.size, 1, none⟩) hlo1).trans r1
      have s2 : wF.cell? ⟨w.heap.size, 2, none⟩ = some (.slice A l.length c) := by rw [← hwF]; exact ((Below.refl _ _).alloc (Nat.le_refl _) _ |>.cell (p := ⟨w.heap.size, 2, none⟩) hlo1).trans r2
      have s3 : wF.cell? ⟨w.heap.size + 1, 2, none⟩ = some (.slice A' l'.length c') := by rw [← hwF]; exact ((Below.refl _ _).alloc (Nat.le_refl _) _ |>.cell (p := ⟨w.heap.size + 1, 2, none⟩) hlo2).trans e2
      have hFw : w.heap.size + 1 < F := by omega
      have HCELL : Hid (∀ wr : World, (∀ g, g < F → wr.heap[g]? = wF.heap[g]?) → wr.cell? ⟨w.heap.size, 0, none⟩ = some (.int .i64 sn) ∧ wr.cell? ⟨w.heap.size, 1, none⟩ = some (.int .i64 m) ∧ wr.cell? ⟨w.heap.size, 2, none⟩ = some (.slice A l.length c) ∧ wr.cell? ⟨w.heap.size + 1, 2, none⟩ = some (.slice A' l'.length c')) := fun wr h => ⟨(World.cell?_of_block (a := ⟨w.heap.size, 0, none⟩) (h _ (by show w.heap.size < F; omega))).trans s0, (World.cell?_of_block (a := ⟨w.heap.size, 1, none⟩) (h _ (by show w.heap.size < F; omega))).trans s1, (World.cell?_of_block (a := ⟨w.heap.size, 2, none⟩) (h _ (by show w.heap.size < F; omega))).trans s2, (World.cell?_of_block (a := ⟨w.heap.size + 1, 2, none⟩) (h _ (by show w.heap.size + 1 < F; omega))).trans s3⟩
      have HFS := Lib.hid hFs
      clear r0 r1 r2 e0 e1 e2 s0 s1 s2 s3 hwF hF hso hso0 hlo1 hlo2 hBw hBo hFs hB1
      go_loopw [11] (fun u wr => ∃ (L : Nat) (prev : List Nat), L ≤ top + 1 ∧ u = .int .i64 ((L : Int) - 1) ∧ Hid (DifI w wF F top l l' L prev wr)) (fun u _ => (intOf u + 1).toNat)
      case atStart =>
        refine ⟨top + 1, [], Nat.le_refl _, by rw [← hti]; simp; omega, ⟨hBF, fun _ _ => rfl, by have := HFS.out; omega, ⟨_, hFr, fun h => by omega⟩, fun h => by omega⟩⟩
      case round =>
        obtain ⟨L, prev, hL, rfl, hI⟩ := hrel
        cases L with
        | zero =>
          obtain ⟨hbel, hkeep, hsize, ⟨vv, hrow, hprow⟩, hpr⟩ := hI.out
          obtain ⟨Ap, cp, rfl, hpc1, hpc2, hpsl⟩ := hprow (by omega)
          obtain ⟨hp1, hp2, hp3⟩ := hpr (by omega)
          obtain ⟨hfc, hff⟩ := hrow.at_
          have hm0 : (((0 : Nat) : Int) - 1) = -1 := by omega
          rw [hm0]
          clear hm0
          have hdif : Hid (prev = difN l l') := hp3
          have hat := HT.out.at_ 0 hl0
          have hplt : Hid (∀ i ∈ prev, i < leavesN sn m) := fun i hi => by
            have := hp2 i hi
            rw [List.getD_eq_getElem?_getD, List.getElem?_eq_getElem hl0, Option.getD_some, hat.1] at this
            exact this
          have hprl : prev.length ≤ 4096 := by simpa using hp1
          obtain ⟨x0, x1, x2, x3⟩ := HCELL.out wr hkeep
          have HPS := Lib.hid (fun W (hb : Below wr.heap.size wr W) => (hpsl.blk (w' := W) (fun g hg => hb.block g hg.2)))
          have HBL := Lib.hid hbel
          have hbs := hbel.size
          have hw0 : w.heap.size < wr.heap.size := by omega
          clear hrow hprow hpr hp1 hp2 hp3 hpsl hat hI hkeep
          go_wp2_with fail
          go_loopw [17, 125] (fun vs kk W => ∃ (p : Nat) (B : Option Addr) (vc : Nat) (out : List Ext), p ≤ prev.length ∧ kk = .int .i64 (p : Nat) ∧ vs = .slice B out.length vc ∧ out.length = p ∧ Hid (out = (prev.take p).map (leafE sn m)) ∧ Below wr.heap.size wr W ∧ Hid (Own encExt W wr.heap.size 67 (fun _ => False) (.slice B out.length vc) out)) (fun _ kk _ => prev.length - (intOf kk).toNat)
          case atStart => exact ⟨0, none, 0, [], by omega, rfl, rfl, rfl, by simp [Hid], Below.refl _ _, Own.nil_⟩
          case round =>
            obtain ⟨W, rfl⟩ : ∃ W : World, W = wr := ⟨_, rfl⟩
            obtain ⟨p, B, vc, out, hp, rfl, rfl, hol, hout, hBW, hown⟩ := hrel
            have HOL := Lib.hid hol
            clear hol
            have hsz := hBW.size
            by_cases hlt : p < prev.length
            · have hpi : (p : Int) < prev.length := by omega
              have hp0 : (0 : Int) ≤ p := by omega
              obtain ⟨bp, offp, he, hbp, k0, ku⟩ := (HPS.out W hBW).int (k := p) (by rw [toI_len]; exact hlt)
              cases he
              rw [toI_at hlt] at k0
              obtain ⟨i, hi⟩ : ∃ i, Hid (i = prev[p]'hlt) := ⟨_, rfl⟩
              rw [← hi.out] at k0
              have hil : i < leavesN sn m := by rw [hi.out]; exact hplt.out _ (List.getElem_mem hlt)
              have him := leaf_lt hm1 hil
              obtain ⟨q, hq⟩ : ∃ q, i * m = q := ⟨_, rfl⟩
              rw [hq] at him
              have hq2 : (i : Int) * (m : Int) = q := by rw [← hq]; simp
              have hle : Hid (leafE sn m i = ((q : Int), ((min m (sn - q) : Nat) : Int))) := by rw [Hid, leafE, hq]
              have hst : Hid ((prev.take (p + 1)).map (leafE sn m) = (prev.take p).map (leafE sn m) ++ [leafE sn m i]) := by
                rw [Hid, List.take_succ_eq_append_getElem hlt, List.map_append, ← hi.out]; rfl
              obtain ⟨g1, g2, g3, g4⟩ : W.cell? ⟨w.heap.size, 0, none⟩ = some (.int .i64 sn) ∧ W.cell? ⟨w.heap.size, 1, none⟩ = some (.int .i64 m) ∧ True ∧ True := ⟨(hBW.cell (p := ⟨w.heap.size, 0, none⟩) hw0).trans x0, (hBW.cell (p := ⟨w.heap.size, 1, none⟩) hw0).trans x1, trivial, trivial⟩
              have hiq : (i : Int) ≤ 4096 := by have := leavesN_le (n := sn) hm1; omega
              clear ku hq g3 g4 x0 x1 x2 x3
              have hmn : Hid (leafE sn m i = ((q : Int), min (m : Int) ((sn : Int) - q))) := by rw [Hid, hle.out]; simp; omega
              have hy64 : I64 (q : Int) ∧ I64 (min (m : Int) ((sn : Int) - q)) := by unfold I64; omega
              have HO1 := Lib.hid (Own.alloc hown.out (fun _ h => h.elim) (.cells #[.int .i64 q, .int .i64 (min (m : Int) ((sn : Int) - q))] 67))
              have HRD : Hid (encExt.rd (W.alloc (.cells #[.int .i64 q, .int .i64 (min (m : Int) ((sn : Int) - q))] 67)) (fun _ => False) [.int .i64 q, .int .i64 (min (m : Int) ((sn : Int) - q))] ((q : Int), (min (m : Int) ((sn : Int) - q)))) := ext_mk (x := ((q : Int), (min (m : Int) ((sn : Int) - q)))) hy64.1 hy64.2
              clear hy64
              go_wp2_with (at_builtin; refine Hid.out ?_)
              change wpList _ _ _ _ _ _
              refine wpList_app1 (E := encExt) tyExtsI rfl _ _ rfl rfl HO1.out ((q : Int), (min (m : Int) ((sn : Int) - q))) _ rfl HRD.out (heap_alloc_new _ _) (fun _ h => h.elim) (by simp; omega) (by have := HOL.out; unfold maxLen; omega) (by have := HOL.out; omega) ?_
              intro A5 c5 w5 hown5 hg5 hat5
              have hB5 := Lib.hid ((ext_alloc (o := .cells #[.int .i64 q, .int .i64 (min (m : Int) ((sn : Int) - q))] 67) hBW).grown hg5 (by simp; omega) (fun g h => (hown.out.lt g h).1))
              have HOW5 := Lib.hid hown5
              clear hown5 hg5 hat5 HO1 HRD
              go_wp2
              go_roundw
              case rel =>
                refine ⟨p + 1, A5, c5, out ++ [((q : Int), (min (m : Int) ((sn : Int) - q)))], hlt, by go_num, by simp, by simp; exact HOL.out, ?_, hB5.out, by simpa [Hid] using HOW5.out⟩
                rw [Hid, hst.out, ← hout.out, hmn.out]
              case measure => simp [intOf]; omega
            · have hpp : p = prev.length := by omega
              have hno : ¬ (p : Int) < prev.length := by omega
              have hBW2 : Below w.heap.size w W := HBL.out.trans (hBW.mono hbs)
              have hoo : out = (difN l l').map (leafE sn m) := by rw [hout.out, hpp, List.take_length, hdif.out]
              obtain ⟨A3, c3, he, h1, h2, h3⟩ := hown.out.reads (S' := Bl W.heap.size) (fun _ h => h.elim) (fun g h => (hown.out.lt g h).2)
              simp only [List.cons.injEq, Value.slice.injEq, and_true] at he
              obtain ⟨rfl, _, rfl⟩ := he
              have hol4 : out.length ≤ 100000 := by have := HOL.out; omega
              have HUN := Lib.hid (union_any B none vc 0 out.length 0 out [] _ rfl rfl rfl W h3 SlAt.nil_ hol4 (by omega) ⟨h1, h2⟩ ⟨by omega, by unfold maxLen; omega⟩)
              have hDT : Hid (difT ((sn : Int), (m : Int), l) ((sn : Int), (m : Int), l') = opL or out []) := by
                rw [Hid, difT, if_pos HE.out, hoo]; rfl
              clear h1 h2 h3 hoo hpp x0 x1 x2 x3
              go_wp2_with fail
              refine HUN.out.mono ?_
              rintro e w4 ⟨A4, c4, rfl, t1, t2, t3, t4⟩
              have HT3 := Lib.hid t3
              clear t3 HUN
              go_wp2_with fail
              go_ret2
              rw [hDT.out, HE.out]
              exact ⟨A4, c4, rfl, t1, t2, HT3.out.more (fun g hg => hg.mono hBW2.size (Nat.le_refl _)), ext_trans hBW2 t4⟩
        | succ L =>
          obtain ⟨hbel, hkeep, hsize, ⟨vv, hrow, hprow⟩, hpr⟩ := hI.out
          have hLm : (((L + 1 : Nat) : Int) - 1) = (L : Int) := by omega
          rw [hLm]
          clear hLm
          have hL0 : (0 : Int) ≤ L := by omega
          have hLl : L < l.length := by rw [HTOP.out]; omega
          have hLi : (L : Int) < l.length := by omega
          have hL16 : (L : Int) < 16 := by omega
          have hat := HT.out.at_ L hLl
          have hll' : l'.length = l.length := by
            have h5 := HT.out.at_ (l.length - 1) (by omega)
            by_cases hlt : l.length - 1 < l'.length
            · have h6 := HT'.out.at_ (l.length - 1) hlt
              have h7 := h6.2.1.1 (h5.2.1.2 (by omega))
              omega
            · have h8 := HT'.out.ne
              have h5' := HT.out.at_ (l'.length - 1) (by omega)
              have h6 := HT'.out.at_ (l'.length - 1) (by omega)
              have h7 := h5'.2.1.1 (h6.2.1.2 (by omega))
              omega
          have HLL := Lib.hid hll'
          have hLl' : L < l'.length := by omega
          have hLi' : (L : Int) < l'.length := by omega
          have hat' := HT'.out.at_ L hLl'
          clear hll'
          by_cases hLt : L = top
          · have hti2 : (L : Int) = top := by omega
            obtain ⟨x0, x1, x2, x3⟩ := HCELL.out wr hkeep
            go_wp2_with fail
            obtain ⟨W, hW⟩ : ∃ W, wr.alloc (.cells #[.int .i64 0] 3) = W := ⟨_, rfl⟩
            rw [hW]
            have hBv : Below wr.heap.size wr W := by rw [← hW]; exact ext_alloc (Below.refl _ _)
            have hvs : W.heap.size = wr.heap.size + 1 := by rw [← hW]; simp
            have hBW2 : Below w.heap.size w W := hbel.trans (hBv.mono hbel.size)
            have hVk : ∀ g, g < F → W.heap[g]? = wF.heap[g]? := fun g hg => (hBv.block g (by omega)).trans (hkeep g hg)
            have hVr : FRow F L (.slice none 0 0) W := (hrow.blk (hBv.block F hsize)).down
            obtain ⟨b, off, _, _, rfl, _, _, _, _, _⟩ := (H1.out _ hBW2).sl hLl
            obtain ⟨nl, hnl⟩ : ∃ nl, Hid (nl = (l[L]'hLl).length) := ⟨_, rfl⟩
            have hnl4 : nl ≤ 4096 := by rw [hnl.out, hat.1]; exact hat.2.2.2
            have hFW : F < W.heap.size := by omega
            have hVs2 : SlAt encInt W (Nw (F + 1) W.heap.size) (some ⟨wr.heap.size, 0, none⟩) (toI [0]) := by
              have ho : Own encInt W wr.heap.size 3 (fun _ => False) (.slice (some ⟨wr.heap.size, 0, none⟩) 1 1) [0] := Own.one_ (Nat.le_refl _) (by rw [← hW]; exact heap_alloc_new _ _) (cs := [.int .i64 0]) ⟨rfl, by unfold I64; omega⟩ rfl (fun h => h)
              obtain ⟨A3, c3, he, _, _, h3⟩ := ho.reads (S' := Nw (F + 1) W.heap.size) (fun _ h => h.elim) (fun g h => by have := ho.lt g h; exact ⟨by omega, by omega⟩)
              simp only [List.cons.injEq, Value.slice.injEq, and_true] at he
              obtain ⟨rfl, _, _⟩ := he
              exact h3
            obtain ⟨vis, hvis⟩ : ∃ vis : List Nat, [0] = vis := ⟨_, rfl⟩
            have hNV : Hid ((vis.length : Int) = 1) := by rw [Hid, ← hvis]; rfl
            have hVlen : vis.length * 2 ^ L ≤ 4096 := by
              have h1 : 2 ^ L ≤ 2 ^ 12 := Nat.pow_le_pow_right (by omega) (by omega)
              rw [← hvis]; simp at h1 ⊢; omega
            have hVlt : ∀ i ∈ vis, i < nl := by
              intro i hi
              rw [← hvis] at hi
              have : i = 0 := by simpa using hi
              have h5 := hat.2.2.1
              rw [this, hnl.out, hat.1]; omega
            have hVf : fnd l l' L vis = difN l l' := by
              have : l.length - 1 = L := by rw [HTOP.out, hLt]; omega
              rw [difN, this, hvis]
            have hVc2 : 1 ≤ maxLen := by decide
            have hVs3 : SlAt encInt W (Nw (F + 1) W.heap.size) (some ⟨wr.heap.size, 0, none⟩) (toI vis) := by rw [← hvis]; exact hVs2
            clear hVs2
            have hVs2 := hVs3
            have hLT := Lib.hid hLt
            clear hVs3 hvis hW hvs hrow hprow hpr hti2 x0 x1 x2 x3 hLt
            generalize wr.heap.size = gq at hVs2 ⊢
            clear hBv
            obtain ⟨x0, x1, x2, x3⟩ := HCELL.out W hVk
            obtain ⟨b', off', D', dc', rfl, hb', _, _, _, _⟩ := (H2.out _ hBW2).sl hLl'
            have hFW' := Lib.hid hFW
            have HVR := Lib.hid hVr
            have HVS2 := Lib.hid hVs2
            have HBW2 := Lib.hid hBW2
            have HVK := Lib.hid hVk
            have HVLT := Lib.hid hVlt
            have hvl4 : vis.length ≤ 4096 := by
              have := Nat.mul_le_mul_left vis.length (Nat.one_le_two_pow (n := L))
              omega
            have HVLN := Lib.hid hVlen
            have HVF := Lib.hid hVf
            have HVC := Lib.hid hVc2
            clear hVr hVs2 hBW2 hVk hVlt hVlen hVf hVc2 x0 x1 x2 x3
            go_loopw [92] (fun kk wr => ∃ (p : Nat) (B2 : Option Addr) (vc2 : Nat) (out : List Int), p ≤ vis.length ∧ kk = .int .i64 (p : Nat) ∧ out.length ≤ p ∧ Hid (out = toI ((vis.take p).filter (df l l' L))) ∧ Hid (L2S w F L W wr (.slice B2 out.length vc2) out)) (fun kk _ => vis.length - (intOf kk).toNat)
            case atStart => exact ⟨0, none, 0, [], by omega, rfl, by simp, by simp [Hid, toI], HBW2.out, fun _ _ _ => rfl, Nat.le_refl _, HVR.out, Own.nil_⟩
            case round =>
              obtain ⟨W2, rfl⟩ : ∃ W2 : World, W2 = wr := ⟨_, rfl⟩
              obtain ⟨p, B2, vc2, out, hp, rfl, hol, hout, hI2⟩ := hrel
              have hsz := hI2.out.2.2.1
              have hkF : ∀ g, g < F → W2.heap[g]? = wF.heap[g]? := fun g hg => (hI2.out.2.1 g (by have := hFW'.out; omega) (by omega)).trans (HVK.out g hg)
              obtain ⟨x0, x1, x2, x3⟩ := HCELL.out W2 hkF
              obtain ⟨f0, ff⟩ := hI2.out.2.2.2.1.at_
              have hB2w := hI2.out.1
              by_cases hlt : p < vis.length
              · have hpi : (p : Int) < 1 := by have := hNV.out; omega
                have hp0 : (0 : Int) ≤ p := by omega
                obtain ⟨bp, offp, hbe, hbp, k0, ku⟩ := (HVS2.out.blk (w' := W2) (fun g hg => hI2.out.2.1 g hg.2 (by have := hg.1; omega))).int (k := p) (by rw [toI_len]; exact hlt)
                cases hbe
                rw [toI_at hlt] at k0
                obtain ⟨i, hi⟩ : ∃ i, Hid (i = vis[p]'hlt) := ⟨_, rfl⟩
                rw [← hi.out] at k0
                try simp only [Nat.zero_add] at k0
                have hin : i < nl := by rw [hi.out]; exact HVLT.out _ (List.getElem_mem hlt)
                have hii : (i : Int) < nl := by omega
                have hi0 : (0 : Int) ≤ i := by omega
                obtain ⟨_, _, D, dc, he1, hb1, g0, hD, hd1, hd2⟩ := (H1.out _ hB2w).sl hLl
                cases he1
                have hix : i < (l[L]'hLl).length := by rw [← hnl.out]; exact hin
                obtain ⟨bD, offD, rfl, hbD, q0, qu⟩ := hD.u64 hix
                obtain ⟨_, _, D', dc', he2, hb2, g0', hD', hd1', hd2'⟩ := (H2.out _ hB2w).sl hLl'
                cases he2
                have hnl' : (l'[L]'hLl').length = nl := by rw [hat'.1, hnl.out, hat.1]
                have hix' : i < (l'[L]'hLl').length := by rw [hnl']; exact hin
                obtain ⟨bD', offD', rfl, hbD', q0', qu'⟩ := hD'.u64 hix'
                rw [← hnl.out] at g0
                rw [hnl'] at g0'
                obtain ⟨d1, hd1v⟩ : ∃ d, Hid (d = (l[L]'hLl)[i]'hix) := ⟨_, rfl⟩
                obtain ⟨d2, hd2v⟩ : ∃ d, Hid (d = (l'[L]'hLl')[i]'hix') := ⟨_, rfl⟩
                have hdf : Hid (df l l' L i = (d1 != d2)) := by
                  rw [Hid, df, List.getD_eq_getElem?_getD, List.getD_eq_getElem?_getD, List.getD_eq_getElem?_getD, List.getD_eq_getElem?_getD, List.getElem?_eq_getElem hLl, List.getElem?_eq_getElem hLl', Option.getD_some, Option.getD_some, List.getElem?_eq_getElem hix, List.getElem?_eq_getElem hix', hd1v.out, hd2v.out]; rfl
                rw [← hd1v.out] at q0
                rw [← hd2v.out] at q0'
                have hst := Lib.hid (filter_take_succ (df l l' L) hlt)
                rw [← hi.out] at hst
                clear hD hD' hd1 hd2 hd1' hd2' ku qu qu' hd1v hd2v hix hix' hnl'
                go_upto_region 28 with (fail)
                go_quiet (fail)
                clear f0 ff x0 x1 x2 x3 q0 q0' g0 g0' k0
                generalize hW3 : W2.drewN nq = W3
                have hd3 : Drew W2 W3 := ⟨nq, hW3.symm⟩
                have hI3 := Lib.hid (hI2.out.drew hd3)
                clear hI2 hkF hB2w hsz hW3 hd3
                have hI2 := Lib.hid hI3.out
                clear hI3
                have hsz := hI2.out.2.2.1
                have hB2w := hI2.out.1
                obtain ⟨f0, ff⟩ := hI2.out.2.2.2.1.at_
                by_cases hdd : d1 = d2
                · have hdd' : (d1 != d2) = false := by simp [hdd]
                  rw [hdf.out, hdd', if_neg (by decide)] at hst
                  clear hdd
                  go_wp2_with fail
                  go_roundw
                  case rel => exact ⟨p + 1, B2, vc2, out, hlt, by go_num, by omega, by rw [Hid, hst.out, List.append_nil]; exact hout.out, hI2.out⟩
                  case measure => simp [intOf]; omega
                · have hdd' : (d1 != d2) = true := by simp [hdd]
                  rw [hdf.out, hdd', if_pos rfl] at hst
                  clear hdd
                  have hFo := hFW'.out
                  have hown := Lib.hid hI2.out.2.2.2.2
                  have hfr := Lib.hid hI2.out.2.2.2.1
                  have HO1 := Lib.hid (Own.alloc hown.out (fun _ h => h.elim) (.cells #[.int .i64 i] 3))
                  have hi64 : I64 (i : Int) := by unfold I64; omega
                  have HRD : Hid (encInt.rd (W3.alloc (.cells #[.int .i64 i] 3)) (fun _ => False) [.int .i64 i] (i : Int)) := ⟨rfl, hi64⟩
                  clear hi64
                  go_wp2_with (at_builtin; refine Hid.out ?_)
                  change wpList _ _ _ _ _ _
                  refine wpList_app1 (E := encInt) tyInts11 rfl _ _ rfl rfl HO1.out (i : Int) _ rfl HRD.out (heap_alloc_new _ _) (fun _ h => h.elim) (by simp; omega) (by unfold maxLen; omega) (by omega) ?_
                  intro A5 c5 w5 hown5 hg5 hat5
                  have hblk5 : ∀ g, g < W.heap.size → w5.heap[g]? = W3.heap[g]? := fun g hg => (hg5.block g (by simp; omega) (fun e => by have := (hown.out.lt g e.symm).1; omega)).trans (Below.heap_alloc _ _ _ (by omega))
                  have hB5 : Below w.heap.size w w5 := (ext_alloc (o := .cells #[.int .i64 i] 3) hB2w).grown hg5 (by simp; have := hB2w.size; omega) (fun g h => by have := (hown.out.lt g h).1; have := HBW2.out.size; omega)
                  have hs5 : W3.heap.size ≤ w5.heap.size := by have := hg5.size; simp at this; omega
                  have hF5 := hfr.out.blk (hblk5 F hFo)
                  obtain ⟨y0, yf⟩ := hF5.at_
                  have hLS : Hid (L2S w F L W (w5.setCell ⟨F, L, none⟩ (.slice A5 (out.length + 1) c5)) (.slice A5 (out.length + 1) c5) (out ++ [(i : Int)])) := by
                    refine ⟨hB5.setCell (p := ⟨F, L, none⟩) (by show w.heap.size ≤ F; omega) _, fun g hg hne => (heap_setCell_other _ _ _ _ hne).trans ((hblk5 g hg).trans (hI2.out.2.1 g hg hne)), by simp [World.setCell]; omega, hF5.set (by omega), ?_⟩
                    exact hown5.blk (fun b hb => heap_setCell_other _ _ _ _ (by
                      rcases hb with hb | hb
                      · exact hb.elim
                      · have h5 := (hown5.lt b hb).1
                        intro e
                        simp only at e
                        omega))
                  clear hown5 hg5 hat5 HO1 HRD hblk5 hF5 f0 ff
                  go_wp2
                  go_roundw
                  case rel =>
                    refine ⟨p + 1, A5, c5, out ++ [(i : Int)], hlt, by go_num, by simp; omega, ?_, by simpa [Hid] using hLS.out⟩
                    rw [Hid, hst.out, toI_app, ← hout.out]; simp [toI]
                  case measure => simp [intOf]; omega
              · have hpp : p = vis.length := by omega
                have hno : ¬ (p : Int) < 1 := by have := hNV.out; omega
                have HPP := Lib.hid hpp
                clear hpp
                have hDI : Hid (DifI w wF F top l l' L (vis.filter (df l l' L)) W2) := by
                  have hout' := hout.out
                  rw [HPP.out, List.take_length] at hout'
                  obtain ⟨p1, p2, p3, p4, p5⟩ := hI2.out
                  obtain ⟨A3, c3, he, h1, h2, h3⟩ := p5.reads (S' := Nw (F + 1) W2.heap.size) (fun _ h => h.elim) (fun g h => by have := p5.lt g h; have := hFW'.out; exact ⟨by omega, by omega⟩)
                  simp only [List.cons.injEq, Value.slice.injEq, and_true] at he
                  obtain ⟨rfl, _, rfl⟩ := he
                  have hol2 : out.length = (vis.filter (df l l' L)).length := by rw [hout', toI_len]
                  refine ⟨p1, hkF, by have := hFW'.out; omega, ⟨_, p4, fun _ => ⟨B2, vc2, by rw [hol2], by rw [← hol2]; exact h1, h2, by rw [← hout']; exact h3⟩⟩, fun _ => ⟨?_, ?_, by rw [← fnd_eq]; exact HVF.out⟩⟩
                  · exact Nat.le_trans (Nat.mul_le_mul_right _ (List.length_filter_le _ _)) HVLN.out
                  · intro i hi
                    rw [List.getD_eq_getElem?_getD, List.getElem?_eq_getElem hLl, Option.getD_some, ← hnl.out]
                    exact HVLT.out i (List.mem_filter.1 hi).1
                clear f0 ff x0 x1 x2 x3
                go_wp2_with fail
                go_roundw
                case rel => exact ⟨L, vis.filter (df l l' L), by omega, by go_num, hDI.out⟩
                case measure => simp [intOf]; try omega
          · have hLt' : (L : Int) < top := by omega
            obtain ⟨Ap, cp, rfl, hpc1, hpc2, hpsl⟩ := hprow (by omega)
            obtain ⟨hp1, hp2, hp3⟩ := hpr (by omega)
            obtain ⟨hfc, hff⟩ := hrow.at_
            obtain ⟨x0, x1, x2, x3⟩ := HCELL.out wr hkeep
            go_wp2_with fail
            obtain ⟨wv, hwv⟩ : ∃ wv, wr.alloc (.cells #[.int .i64 0] 3) = wv := ⟨_, rfl⟩
            rw [hwv]
            have hBv : Below wr.heap.size wr wv := by rw [← hwv]; exact ext_alloc (Below.refl _ _)
            have hvs : wv.heap.size = wr.heap.size + 1 := by rw [← hwv]; simp
            have hBwv : Below w.heap.size w wv := hbel.trans (hBv.mono hbel.size)
            have hkv : ∀ g, g < F → wv.heap[g]? = wF.heap[g]? := fun g hg => (hBv.block g (by omega)).trans (hkeep g hg)
            have hrv := Lib.hid (hrow.blk (hBv.block F hsize))
            have HPS := Lib.hid (fun W (hb : Below wv.heap.size wv W) => (hpsl.blk (w' := W) (fun g hg => (hb.block g (by have := hg.2; omega)).trans (hBv.block g hg.2))))
            clear x0 x1 x2 x3
            obtain ⟨x0, x1, x2, x3⟩ := HCELL.out wv hkv
            obtain ⟨b, off, D, dc, rfl, hb, g0, hD, hd1, hd2⟩ := (H1.out _ hBwv).sl hLl
            obtain ⟨nl, hnl⟩ : ∃ nl, Hid (nl = (l[L]'hLl).length) := ⟨_, rfl⟩
            rw [← hnl.out] at g0
            have hnl4 : nl ≤ 4096 := by rw [hnl.out, hat.1]; exact hat.2.2.2
            have hb0 : b < wv.heap.size := Nat.lt_of_lt_of_le hb hBwv.size
            have hw0 : w.heap.size < wv.heap.size := by omega
            have hpl : prev.length ≤ 2048 := by
              have h2 : 2 ≤ 2 ^ (L + 1) := by rw [Nat.pow_succ]; have := Nat.one_le_two_pow (n := L); omega
              have := Nat.mul_le_mul_left prev.length h2
              omega
            have hp2' := Lib.hid hp2
            have hp3' := Lib.hid hp3
            have hp1' := Lib.hid hp1
            have HVS := Lib.hid hvs
            clear hvs hD hd1 hd2 hwv hp1 hp2 hp3 hpsl hfc hff hrow hpr hBv hpc1 hpc2
            go_loopw [12, 64] (fun vs kk W => ∃ (p : Nat) (B : Option Addr) (vc : Nat) (out : List Int), p ≤ prev.length ∧ kk = .int .i64 (p : Nat) ∧ vs = .slice B out.length vc ∧ out.length ≤ 2 * p ∧ Hid (out = toI (kids nl (prev.take p))) ∧ Below wv.heap.size wv W ∧ Hid (OwnW encInt W wv.heap.size wv.heap.size 3 (.slice B out.length vc) out)) (fun _ kk _ => prev.length - (intOf kk).toNat)
            case atStart => exact ⟨0, none, 0, [], by omega, rfl, rfl, by simp, by simp [Hid, kids, toI], Below.refl _ _, OwnW.nil_⟩
            case round =>
              obtain ⟨W, rfl⟩ : ∃ W : World, W = wr := ⟨_, rfl⟩
              obtain ⟨p, B, vc, out, hp, rfl, rfl, hol, hout, hBW, hown⟩ := hrel
              have hsz := hBW.size
              have g1 := (hBW.cell (p := ⟨w.heap.size, 2, none⟩) hw0).trans x2
              have g2 := (hBW.cell (p := ⟨b, off + L, none⟩) hb0).trans g0
              by_cases hlt : p < prev.length
              · have hpi : (p : Int) < prev.length := by omega
                have hp0 : (0 : Int) ≤ p := by omega
                obtain ⟨bp, offp, he, hbp, k0, ku⟩ := (HPS.out W hBW).int (k := p) (by rw [toI_len]; exact hlt)
                cases he
                rw [toI_at hlt] at k0
                obtain ⟨i, hi⟩ : ∃ i, Hid (i = prev[p]'hlt) := ⟨_, rfl⟩
                rw [← hi.out] at k0
                have hi4 : i < 4096 := by
                  have := hp2'.out _ (List.getElem_mem hlt)
                  rw [← hi.out, List.getD_eq_getElem?_getD] at this
                  by_cases h5 : L + 1 < l.length
                  · rw [List.getElem?_eq_getElem h5] at this
                    have h6 := HT.out.at_ (L + 1) h5
                    simp only [Option.getD_some] at this
                    rw [h6.1] at this; omega
                  · rw [List.getElem?_eq_none (by omega)] at this; simp at this
                have hst := Lib.hid (kids_take_succ nl hlt)
                rw [← hi.out] at hst
                clear ku x0 x1 x2 x3 g0
                have HO1 := Lib.hid (Own.alloc (hown).out (fun _ h => h.1.2) (.cells #[.int .i64 (2 * (i : Int))] 3))
                have HRD : Hid (encInt.rd (W.alloc (.cells #[.int .i64 (2 * (i : Int))] 3)) (fun b => Nw wv.heap.size W.heap.size b ∧ (Value.slice B out.length vc).ownBlock ≠ some b) [.int .i64 (2 * (i : Int))] (2 * (i : Int))) := ⟨rfl, (by unfold I64; omega)⟩
                go_wp2_with (at_builtin; refine Hid.out ?_)
                change wpList _ _ _ _ _ _
                refine wpList_app1 (E := encInt) tyInts11 rfl _ _ rfl rfl HO1.out (2 * (i : Int)) _ rfl HRD.out (heap_alloc_new _ _) (fun _ h => by simp; have := h.1.2; omega) (by simp; omega) (by unfold maxLen; omega) (by omega) ?_
                intro A5 c5 w5 hown5 hg5 hat5
                have hlt1 : ∀ g, (Value.slice B out.length vc).ownBlock = some g → g < W.heap.size := fun g hg => ((hown).out.lt g hg).2
                have hok5 := Lib.hid (OwnW.app (hown5.more (S' := fun b => Nw wv.heap.size (W.alloc (.cells #[.int .i64 (2 * (i : Int))] 3)).heap.size b ∧ (Value.slice B out.length vc).ownBlock ≠ some b) (fun b hb => ⟨hb.1.mono (Nat.le_refl _) (by simp), hb.2⟩) (OwnW_new hown5 hat5 hlt1 (by simp))) hg5 hat5)
                have hB5 := Lib.hid ((ext_alloc (o := .cells #[.int .i64 (2 * (i : Int))] 3) hBW).grown hg5 (by simp; omega) (fun g h => ((hown).out.lt g h).1))
                clear hown5 hg5 hat5 hlt1 HO1 HRD
                obtain ⟨wa, rfl⟩ : ∃ wa : World, wa = w5 := ⟨_, rfl⟩
                obtain ⟨Aa, rfl⟩ : ∃ Aa : Option Addr, Aa = A5 := ⟨_, rfl⟩
                obtain ⟨ca, rfl⟩ : ∃ ca : Nat, ca = c5 := ⟨_, rfl⟩
                have hokA := Lib.hid hok5.out
                have hBA := hB5.out
                clear hok5 hB5
                have hsa := hBA.size
                obtain ⟨g3, g4⟩ : wa.cell? ⟨w.heap.size, 2, none⟩ = some (.slice (some ⟨b, off, none⟩) l.length c) ∧ wa.cell? ⟨b, off + L, none⟩ = some (.slice D nl dc) := ⟨((hBA.cell (p := ⟨w.heap.size, 2, none⟩) hw0).trans (hBW.cell (p := ⟨w.heap.size, 2, none⟩) hw0).symm).trans g1, ((hBA.cell (p := ⟨b, off + L, none⟩) hb0).trans (hBW.cell (p := ⟨b, off + L, none⟩) hb0).symm).trans g2⟩
                by_cases hod : 2 * i + 1 < nl
                · have hod' : 2 * (i : Int) + 1 < nl := by omega
                  rw [if_pos hod] at hst
                  obtain ⟨outa, houta⟩ : ∃ o, Hid (o = out ++ [2 * (i : Int)]) := ⟨_, rfl⟩
                  have hla : Hid (out.length + 1 = outa.length) := by rw [houta.out]; simp [Hid]
                  have hla2 := hla.out
                  rw [← houta.out, hla.out] at hokA
                  rw [hla.out]
                  have hola : outa.length ≤ 2 * p + 1 := by omega
                  clear hla2 g1 g2 hBW k0
                  have HO1 := Lib.hid (Own.alloc (hokA).out (fun _ h => h.1.2) (.cells #[.int .i64 (2 * (i : Int) + 1)] 3))
                  have HRD : Hid (encInt.rd (wa.alloc (.cells #[.int .i64 (2 * (i : Int) + 1)] 3)) (fun b => Nw wv.heap.size wa.heap.size b ∧ (Value.slice Aa outa.length ca).ownBlock ≠ some b) [.int .i64 (2 * (i : Int) + 1)] (2 * (i : Int) + 1)) := ⟨rfl, (by unfold I64; omega)⟩
                  go_wp2_with (at_builtin; refine Hid.out ?_)
                  change wpList _ _ _ _ _ _
                  refine wpList_app1 (E := encInt) tyInts11 rfl _ _ rfl rfl HO1.out (2 * (i : Int) + 1) _ rfl HRD.out (heap_alloc_new _ _) (fun _ h => by simp; have := h.1.2; omega) (by simp; omega) (by unfold maxLen; omega) (by omega) ?_
                  intro A5 c5 w5 hown5 hg5 hat5
                  have hlt1 : ∀ g, (Value.slice Aa outa.length ca).ownBlock = some g → g < wa.heap.size := fun g hg => ((hokA).out.lt g hg).2
                  have hok5 := Lib.hid (OwnW.app (hown5.more (S' := fun b => Nw wv.heap.size (wa.alloc (.cells #[.int .i64 (2 * (i : Int) + 1)] 3)).heap.size b ∧ (Value.slice Aa outa.length ca).ownBlock ≠ some b) (fun b hb => ⟨hb.1.mono (Nat.le_refl _) (by simp), hb.2⟩) (OwnW_new hown5 hat5 hlt1 (by simp))) hg5 hat5)
                  have hB5 := Lib.hid ((ext_alloc (o := .cells #[.int .i64 (2 * (i : Int) + 1)] 3) hBA).grown hg5 (by simp; omega) (fun g h => ((hokA).out.lt g h).1))
                  clear hown5 hg5 hat5 hlt1 HO1 HRD
                  go_wp2
                  go_roundw
                  case rel =>
                    refine ⟨p + 1, A5, c5, outa ++ [2 * (i : Int) + 1], hlt, by go_num, by simp, by simp; omega, ?_, hB5.out, by have := hok5.out; simpa [Hid] using this⟩
                    rw [Hid, hst.out, toI_app, ← hout.out, houta.out]; simp [toI]
                  case measure => simp [intOf]; omega
                · have hod' : ¬ 2 * (i : Int) + 1 < nl := by omega
                  rw [if_neg hod] at hst
                  clear g1 g2 hBW k0
                  go_wp2_with fail
                  go_roundw
                  case rel =>
                    refine ⟨p + 1, Aa, ca, out ++ [2 * (i : Int)], hlt, by go_num, by simp, by simp; omega, ?_, hBA, by have := hokA.out; simpa [Hid] using this⟩
                    rw [Hid, hst.out, toI_app, ← hout.out]; simp [toI]
                  case measure => simp [intOf]; omega
              · have hpp : p = prev.length := by omega
                subst hpp
                have hBW2 : Below w.heap.size w W := hBwv.trans (hBW.mono hBwv.size)
                have hVlen : (kids nl prev).length * 2 ^ L ≤ 4096 := by
                  have h1 := hp1'.out
                  rw [Nat.pow_succ] at h1
                  have h2 := Nat.mul_le_mul_right (2 ^ L) (kids_len nl prev)
                  have h3 : 2 * prev.length * 2 ^ L = prev.length * (2 ^ L * 2) := by rw [Nat.mul_comm 2, Nat.mul_assoc, Nat.mul_comm 2]
                  omega
                have hVlt : ∀ i ∈ kids nl prev, i < nl := kids_lt (m := (l.getD (L + 1) []).length) (by
                  have h5 : L + 1 < l.length := by rw [HTOP.out]; omega
                  rw [List.getD_eq_getElem?_getD, List.getElem?_eq_getElem h5, Option.getD_some, (HT.out.at_ (L + 1) h5).1, nk_succ, hnl.out, hat.1]) hp2'.out
                have hVf : fnd l l' L (kids nl prev) = difN l l' := by
                  have h1 := hp3'.out
                  rw [fndP, List.getD_eq_getElem?_getD, List.getElem?_eq_getElem hLl, Option.getD_some, ← hnl.out] at h1
                  exact h1
                have hVk : ∀ g, g < F → W.heap[g]? = wF.heap[g]? := fun g hg => (hBW.block g (by have := HVS.out; omega)).trans (hkv g hg)
                have hVr : FRow F L (.slice none 0 0) W := (hrv.out.blk (hBW.block F (by have := HVS.out; omega))).down
                obtain ⟨vis, hvis⟩ : ∃ vis, kids nl prev = vis := ⟨_, rfl⟩
                have hVo : out = toI vis := by rw [hout.out, List.take_length, hvis]
                obtain ⟨_, hVc1, hVc2, hVs⟩ := hown.out.parts
                have hFW : F < W.heap.size := by have := HVS.out; have := hBW.size; omega
                have hVs2 : SlAt encInt W (Nw (F + 1) W.heap.size) B (toI vis) := by rw [← hVo]; exact hVs.more (fun g hg => ⟨by have := hg.1; have := HVS.out; omega, hg.2⟩)
                have hVl : out.length = vis.length := by rw [hVo, toI_len]
                rw [hVl] at hVc1 ⊢
                rw [hvis] at hVlen hVlt hVf
                clear hvis hVo hVs hout hown hp1' hp2' hp3' HPS g1 g2 x0 x1 x2 x3 g0 hVl hol hrv
                have hNV : Hid ((vis.length : Int) = (vis.length : Int)) := rfl
                go_wp2_with fail
                obtain ⟨x0, x1, x2, x3⟩ := HCELL.out W hVk
                obtain ⟨b', off', D', dc', rfl, hb', _, _, _, _⟩ := (H2.out _ hBW2).sl hLl'
                have hFW' := Lib.hid hFW
                have HVR := Lib.hid hVr
                have HVS2 := Lib.hid hVs2
                have HBW2 := Lib.hid hBW2
                have HVK := Lib.hid hVk
                have HVLT := Lib.hid hVlt
                have hvl4 : vis.length ≤ 4096 := by
                  have := Nat.mul_le_mul_left vis.length (Nat.one_le_two_pow (n := L))
                  omega
                have HVLN := Lib.hid hVlen
                have HVF := Lib.hid hVf
                have HVC := Lib.hid hVc2
                clear hVr hVs2 hBW2 hVk hVlt hVlen hVf hVc2 x0 x1 x2 x3
                go_loopw [92] (fun kk wr => ∃ (p : Nat) (B2 : Option Addr) (vc2 : Nat) (out : List Int), p ≤ vis.length ∧ kk = .int .i64 (p : Nat) ∧ out.length ≤ p ∧ Hid (out = toI ((vis.take p).filter (df l l' L))) ∧ Hid (L2S w F L W wr (.slice B2 out.length vc2) out)) (fun kk _ => vis.length - (intOf kk).toNat)
                case atStart => exact ⟨0, none, 0, [], by omega, rfl, by simp, by simp [Hid, toI], HBW2.out, fun _ _ _ => rfl, Nat.le_refl _, HVR.out, Own.nil_⟩
                case round =>
                  obtain ⟨W2, rfl⟩ : ∃ W2 : World, W2 = wr := ⟨_, rfl⟩
                  obtain ⟨p, B2, vc2, out, hp, rfl, hol, hout, hI2⟩ := hrel
                  have hsz := hI2.out.2.2.1
                  have hkF : ∀ g, g < F → W2.heap[g]? = wF.heap[g]? := fun g hg => (hI2.out.2.1 g (by have := hFW'.out; omega) (by omega)).trans (HVK.out g hg)
                  obtain ⟨x0, x1, x2, x3⟩ := HCELL.out W2 hkF
                  obtain ⟨f0, ff⟩ := hI2.out.2.2.2.1.at_
                  have hB2w := hI2.out.1
                  by_cases hlt : p < vis.length
                  · have hpi : (p : Int) < (vis.length : Int) := by have := hNV.out; omega
                    have hp0 : (0 : Int) ≤ p := by omega
                    obtain ⟨bp, offp, hbe, hbp, k0, ku⟩ := (HVS2.out.blk (w' := W2) (fun g hg => hI2.out.2.1 g hg.2 (by have := hg.1; omega))).int (k := p) (by rw [toI_len]; exact hlt)
                    cases hbe
                    rw [toI_at hlt] at k0
                    obtain ⟨i, hi⟩ : ∃ i, Hid (i = vis[p]'hlt) := ⟨_, rfl⟩
                    rw [← hi.out] at k0
                    try simp only [Nat.zero_add] at k0
                    have hin : i < nl := by rw [hi.out]; exact HVLT.out _ (List.getElem_mem hlt)
                    have hii : (i : Int) < nl := by omega
                    have hi0 : (0 : Int) ≤ i := by omega
                    obtain ⟨_, _, D, dc, he1, hb1, g0, hD, hd1, hd2⟩ := (H1.out _ hB2w).sl hLl
                    cases he1
                    have hix : i < (l[L]'hLl).length := by rw [← hnl.out]; exact hin
                    obtain ⟨bD, offD, rfl, hbD, q0, qu⟩ := hD.u64 hix
                    obtain ⟨_, _, D', dc', he2, hb2, g0', hD', hd1', hd2'⟩ := (H2.out _ hB2w).sl hLl'
                    cases he2
                    have hnl' : (l'[L]'hLl').length = nl := by rw [hat'.1, hnl.out, hat.1]
                    have hix' : i < (l'[L]'hLl').length := by rw [hnl']; exact hin
                    obtain ⟨bD', offD', rfl, hbD', q0', qu'⟩ := hD'.u64 hix'
                    rw [← hnl.out] at g0
                    rw [hnl'] at g0'
                    obtain ⟨d1, hd1v⟩ : ∃ d, Hid (d = (l[L]'hLl)[i]'hix) := ⟨_, rfl⟩
                    obtain ⟨d2, hd2v⟩ : ∃ d, Hid (d = (l'[L]'hLl')[i]'hix') := ⟨_, rfl⟩
                    have hdf : Hid (df l l' L i = (d1 != d2)) := by
                      rw [Hid, df, List.getD_eq_getElem?_getD, List.getD_eq_getElem?_getD, List.getD_eq_getElem?_getD, List.getD_eq_getElem?_getD, List.getElem?_eq_getElem hLl, List.getElem?_eq_getElem hLl', Option.getD_some, Option.getD_some, List.getElem?_eq_getElem hix, List.getElem?_eq_getElem hix', hd1v.out, hd2v.out]; rfl
                    rw [← hd1v.out] at q0
                    rw [← hd2v.out] at q0'
                    have hst := Lib.hid (filter_take_succ (df l l' L) hlt)
                    rw [← hi.out] at hst
                    clear hD hD' hd1 hd2 hd1' hd2' ku qu qu' hd1v hd2v hix hix' hnl'
                    go_upto_region 28 with (fail)
                    go_quiet (fail)
                    clear f0 ff x0 x1 x2 x3 q0 q0' g0 g0' k0
                    generalize hW3 : W2.drewN nq = W3
                    have hd3 : Drew W2 W3 := ⟨nq, hW3.symm⟩
                    have hI3 := Lib.hid (hI2.out.drew hd3)
                    clear hI2 hkF hB2w hsz hW3 hd3
                    have hI2 := Lib.hid hI3.out
                    clear hI3
                    have hsz := hI2.out.2.2.1
                    have hB2w := hI2.out.1
                    obtain ⟨f0, ff⟩ := hI2.out.2.2.2.1.at_
                    by_cases hdd : d1 = d2
                    · have hdd' : (d1 != d2) = false := by simp [hdd]
                      rw [hdf.out, hdd', if_neg (by decide)] at hst
                      clear hdd
                      go_wp2_with fail
                      go_roundw
                      case rel => exact ⟨p + 1, B2, vc2, out, hlt, by go_num, by omega, by rw [Hid, hst.out, List.append_nil]; exact hout.out, hI2.out⟩
                      case measure => simp [intOf]; omega
                    · have hdd' : (d1 != d2) = true := by simp [hdd]
                      rw [hdf.out, hdd', if_pos rfl] at hst
                      clear hdd
                      have hFo := hFW'.out
                      have hown := Lib.hid hI2.out.2.2.2.2
                      have hfr := Lib.hid hI2.out.2.2.2.1
                      have HO1 := Lib.hid (Own.alloc hown.out (fun _ h => h.elim) (.cells #[.int .i64 i] 3))
                      have hi64 : I64 (i : Int) := by unfold I64; omega
                      have HRD : Hid (encInt.rd (W3.alloc (.cells #[.int .i64 i] 3)) (fun _ => False) [.int .i64 i] (i : Int)) := ⟨rfl, hi64⟩
                      clear hi64
                      go_wp2_with (at_builtin; refine Hid.out ?_)
                      change wpList _ _ _ _ _ _
                      refine wpList_app1 (E := encInt) tyInts11 rfl _ _ rfl rfl HO1.out (i : Int) _ rfl HRD.out (heap_alloc_new _ _) (fun _ h => h.elim) (by simp; omega) (by unfold maxLen; omega) (by omega) ?_
                      intro A5 c5 w5 hown5 hg5 hat5
                      have hblk5 : ∀ g, g < W.heap.size → w5.heap[g]? = W3.heap[g]? := fun g hg => (hg5.block g (by simp; omega) (fun e => by have := (hown.out.lt g e.symm).1; omega)).trans (Below.heap_alloc _ _ _ (by omega))
                      have hB5 : Below w.heap.size w w5 := (ext_alloc (o := .cells #[.int .i64 i] 3) hB2w).grown hg5 (by simp; have := hB2w.size; omega) (fun g h => by have := (hown.out.lt g h).1; have := HBW2.out.size; omega)
                      have hs5 : W3.heap.size ≤ w5.heap.size := by have := hg5.size; simp at this; omega
                      have hF5 := hfr.out.blk (hblk5 F hFo)
                      obtain ⟨y0, yf⟩ := hF5.at_
                      have hLS : Hid (L2S w F L W (w5.setCell ⟨F, L, none⟩ (.slice A5 (out.length + 1) c5)) (.slice A5 (out.length + 1) c5) (out ++ [(i : Int)])) := by
                        refine ⟨hB5.setCell (p := ⟨F, L, none⟩) (by show w.heap.size ≤ F; omega) _, fun g hg hne => (heap_setCell_other _ _ _ _ hne).trans ((hblk5 g hg).trans (hI2.out.2.1 g hg hne)), by simp [World.setCell]; omega, hF5.set (by omega), ?_⟩
                        exact hown5.blk (fun b hb => heap_setCell_other _ _ _ _ (by
                          rcases hb with hb | hb
                          · exact hb.elim
                          · have h5 := (hown5.lt b hb).1
                            intro e
                            simp only at e
                            omega))
                      clear hown5 hg5 hat5 HO1 HRD hblk5 hF5 f0 ff
                      go_wp2
                      go_roundw
                      case rel =>
                        refine ⟨p + 1, A5, c5, out ++ [(i : Int)], hlt, by go_num, by simp; omega, ?_, by simpa [Hid] using hLS.out⟩
                        rw [Hid, hst.out, toI_app, ← hout.out]; simp [toI]
                      case measure => simp [intOf]; omega
                  · have hpp : p = vis.length := by omega
                    have hno : ¬ (p : Int) < (vis.length : Int) := by have := hNV.out; omega
                    have HPP := Lib.hid hpp
                    clear hpp
                    have hDI : Hid (DifI w wF F top l l' L (vis.filter (df l l' L)) W2) := by
                      have hout' := hout.out
                      rw [HPP.out, List.take_length] at hout'
                      obtain ⟨p1, p2, p3, p4, p5⟩ := hI2.out
                      obtain ⟨A3, c3, he, h1, h2, h3⟩ := p5.reads (S' := Nw (F + 1) W2.heap.size) (fun _ h => h.elim) (fun g h => by have := p5.lt g h; have := hFW'.out; exact ⟨by omega, by omega⟩)
                      simp only [List.cons.injEq, Value.slice.injEq, and_true] at he
                      obtain ⟨rfl, _, rfl⟩ := he
                      have hol2 : out.length = (vis.filter (df l l' L)).length := by rw [hout', toI_len]
                      refine ⟨p1, hkF, by have := hFW'.out; omega, ⟨_, p4, fun _ => ⟨B2, vc2, by rw [hol2], by rw [← hol2]; exact h1, h2, by rw [← hout']; exact h3⟩⟩, fun _ => ⟨?_, ?_, by rw [← fnd_eq]; exact HVF.out⟩⟩
                      · exact Nat.le_trans (Nat.mul_le_mul_right _ (List.length_filter_le _ _)) HVLN.out
                      · intro i hi
                        rw [List.getD_eq_getElem?_getD, List.getElem?_eq_getElem hLl, Option.getD_some, ← hnl.out]
                        exact HVLT.out i (List.mem_filter.1 hi).1
                    clear f0 ff x0 x1 x2 x3
                    go_wp2_with fail
                    go_roundw
                    case rel => exact ⟨L, vis.filter (df l l' L), by omega, by go_num, hDI.out⟩
                    case measure => simp [intOf]; try omega
end Go.Proofs.Ytjehedfdikdfpaa
namespace Go.Proofs.Ytjehedfdikdfpaa

theorem sentN_pos (a b : List (List Int)) : ∀ k (v : List Nat), v ≠ [] → 1 ≤ sentN a b k v
  | 0, v, h => List.length_pos_iff.2 h
  | k + 1, v, h => by unfold sentN; have := List.length_pos_iff.2 h; omega
/-- one digest is sent if the roots are the same, or there is no level below -/
theorem sentN_one (a b : List (List Int)) (k : Nat) : sentN a b k [0] = 1 ↔ (df a b k 0 = false ∨ k = 0) := by
  cases k with
  | zero => simp [sentN]
  | succ k =>
    unfold sentN
    cases hd : df a b (k + 1) 0 with
    | false => simp [hd]
    | true =>
      have h1 : [0].filter (df a b (k + 1)) = [0] := by simp [hd]
      rw [h1, if_neg (by simp)]
      have := sentN_pos a b k (kids (a.getD k []).length [0]) (kids_ne (by simp))
      simp only [List.length_singleton]
      constructor
      · intro h; omega
      · rintro (h | h)
        · cases h
        · omega

end Go.Proofs.Ytjehedfdikdfpaa
namespace Go.Proofs.Ytjehedfdikdfpaa

/-- the law of the roots: one digest is sent if they are the same, or the tree has one level -/
theorem finds_one {n m : Nat} {l l' : List (List Int)} (tk : TOk n m l) : sentN l l' (l.length - 1) [0] = 1 ↔ ((l.getD (l.length - 1) []).getD 0 0 = (l'.getD (l.length - 1) []).getD 0 0 ∨ l.length = 1) := by
  have h0 := tk.ne
  rw [sentN_one]
  unfold df
  rw [bne_eq_false_iff_eq]
  constructor
  · rintro (h | h)
    · exact Or.inl h
    · exact Or.inr (by omega)
  · rintro (h | h)
    · exact Or.inl h
    · exact Or.inr (by omega)
end Go.Proofs.Ytjehedfdikdfpaa
