/-
  The examples of the chapter retention: plain facts and the walk.
-/
import Derived.Test.YtnkmklnlaepdeaaGreatY3
import Derived.Test.YtnkmklnlaepdeaaGreatY6
import Derived.Test.YtnkmklnlaepdeaaGreatY5
import Derived.Test.YtnkmklnlaepdeaaGreatKy
set_option linter.unusedVariables false
set_option linter.unusedSimpArgs false
set_option linter.unusedSectionVars false
set_option linter.unnecessarySimpa false
namespace Go.Proofs.YtnkmklnlaepdeaaGreat
open Go.RowKit Go.Shelf
attribute [local go_sem] Oper.semAt_some

def awL : List Int := [3, 8, 12, 15, 21, 24]
def ap1 : Sns := (imgB [0], [])
def ap2 : Sns := (imgB [0], [(1, 3, [])])
def ap3 : Sns := (imgB [0], [(1, 3, []), (2, 8, [])])
def ap4 : Sns := (imgB [0], [(2, 8, [])])
theorem ap_1 : newS (imgB [0]) = ap1 ∧ sizesN (lens (imgB [0])) = 0 := by decide +kernel
theorem ap_2 : takeS ap1 1 3 = ap2 ∧ takeE ap1 1 3 = 0 := by decide +kernel
theorem ap_3 : takeS ap2 2 8 = ap3 ∧ takeE ap2 2 8 = 0 := by decide +kernel
theorem ap_few : fewS ap1 = true ∧ fewS ap2 = true ∧ fewS ap3 = true := by decide +kernel
theorem ap_p : pruneS (1, [(10, 2)]) (imgB [0], ap3.2) [] 9 = ap4 ∧ goneS (1, [(10, 2)]) (imgB [0], ap3.2) [] 9 = [1] ∧ pruneE (1, [(10, 2)]) (imgB [0], ap3.2) 9 = 0 := by decide +kernel
theorem ap_k : keepL (1, [(10, 2)]) awL 25 = [3, 5] ∧ keepL (1, [(10, 2)]) awL 30 = [5] := by decide +kernel
theorem ap_t : mostP (1, [(5, 1), (10, 7)]) = 9 := by decide +kernel
theorem ap_m : mergeP (1, [(10, 2)]) (0, [(5, 1), (10, 7)]) = (1, [(5, 1), (10, 7)]) ∧ mergeE (1, [(10, 2)]) (0, [(5, 1), (10, 7)]) = 0 := by
  have hr : mergeR [(10, 2)] [(5, 1), (10, 7)] = [(5, 1), (10, 7)] := by rw [mergeR_gt (by decide), mergeR_eq (by decide), mergeR_nil']; rfl
  have hm : mergeE (1, [(10, 2)]) (0, [(5, 1), (10, 7)]) = 0 := by
    unfold mergeE
    rw [if_neg (by decide), if_neg (by decide), if_neg (show ¬ 8 < (mergeR [(10, 2)] [(5, 1), (10, 7)]).length by rw [hr]; decide)]
  refine ⟨?_, hm⟩
  unfold mergeP
  rw [if_pos hm]
  show (max (1 : Int) 0, mergeR [(10, 2)] [(5, 1), (10, 7)]) = _
  rw [hr]; rfl
theorem awMerge {w w' : World} {e : Ending} (h : PolRet (mergeP (1, [(10, 2)]) (0, [(5, 1), (10, 7)])) (mergeE (1, [(10, 2)]) (0, [(5, 1), (10, 7)])) w e w') : ∃ A c, e = .returned (.tuple #[.agg #[.int .i64 1, .slice A 2 c], .int .i64 0]) ∧ SlAt encExt w' (Nw w.heap.size w'.heap.size) A [(5, 1), (10, 7)] ∧ Below w.heap.size w w' := by
  rw [ap_m.1, ap_m.2] at h
  obtain ⟨A, c, he, _, _, h3, h4⟩ := h
  exact ⟨A, c, he, h3, h4⟩
theorem awPrune {w w' : World} {e : Ending} (h : PruneRet (pruneS (1, [(10, 2)]) (imgB [0], ap3.2) [] 9) (goneS (1, [(10, 2)]) (imgB [0], ap3.2) [] 9) (pruneE (1, [(10, 2)]) (imgB [0], ap3.2) 9) w e w') : ∃ B vc D dc G gc, e = .returned (.tuple #[.agg #[.slice B 1 vc, .slice D 1 dc], .slice G 1 gc, .int .i64 0]) ∧ SlAt encInt w' (Nw w.heap.size w'.heap.size) G [1] ∧ Below w.heap.size w w' := by
  rw [ap_p.1, ap_p.2.1, ap_p.2.2] at h
  obtain ⟨B, vc, D, dc, G, gc, he, _, _, ⟨_, _, h3⟩, h4⟩ := h
  exact ⟨B, vc, D, dc, G, gc, he, h3, h4⟩
theorem awKeep25 {w w' : World} {e : Ending} {r : List Nat} {l : List Int} {k : Nat} (h : RetSl encInt (intsN r) w e w') (hl : intsN r = l) (hk : l.length = k) : ∃ A c, e = .returned (.slice A k c) ∧ SlAt encInt w' (Nw w.heap.size w'.heap.size) A l ∧ Below w.heap.size w w' := by
  obtain ⟨A, c, he, _, _, h3, h4⟩ := h
  subst hl hk
  exact ⟨A, c, he, h3, h4⟩
theorem litInts {W : World} {g : Nat} {T : TypeId} {l : List Int} {cs : Array Value} (h1 : W.heap[g]? = some (.cells cs T (0, 0))) (hcs : cs = (l.map (Value.int .i64)).toArray) (hr : ∀ x ∈ l, I64 x) : SlAt encInt W (fun b => b = g) (some ⟨g, 0, none⟩) l := by
  have key : ∀ l : List Int, (∀ x ∈ l, I64 x) → All2 (encInt.rd W (fun _ => False)) (l.map fun x => [Value.int .i64 x]) l := by
    intro l
    induction l with
    | nil => intro _; trivial
    | cons x l ih => exact fun h => ⟨⟨rfl, h x (by simp)⟩, ih (fun y hy => h y (by simp [hy]))⟩
  refine litS (S0 := fun _ => False) h1 ?_ (key l hr) (fun _ h => h.elim) rfl (fun h => h)
  rw [hcs]
  congr 1
  clear hcs h1 hr
  induction l with
  | nil => rfl
  | cons x l ih => simp [ih]
set_option maxHeartbeats 8000000 in
set_option maxRecDepth 100000 in
theorem awake38_any (w : World) : Calls Tryz.prog 5 #[] w fun e w' => e = .returned (.bool true) ∧ Below w.heap.size w w' := by
  obtain ⟨n0, hn0⟩ : ∃ n0, w.heap.size = n0 := ⟨_, rfl⟩
  rw [hn0]
  obtain ⟨Wa, hWa⟩ : ∃ W, w.alloc (.cells #[.int .i64 10, .int .i64 2] 48) = W := ⟨_, rfl⟩
  obtain ⟨Wb, hWb⟩ : ∃ W, Wa.alloc (.cells #[.int .i64 1, .slice (some ⟨n0, 0, none⟩) 1 1] 24) = W := ⟨_, rfl⟩
  obtain ⟨Wc, hWc⟩ : ∃ W, Wb.alloc (.cells #[.int .i64 3, .int .i64 8, .int .i64 12, .int .i64 15, .int .i64 21, .int .i64 24] 3) = W := ⟨_, rfl⟩
  obtain ⟨W1, hW1⟩ : ∃ W, Wc.alloc (.cells #[.int .i64 5, .int .i64 1, .int .i64 10, .int .i64 7] 48) = W := ⟨_, rfl⟩
  have sa : Wa.heap.size = n0 + 1 := by rw [← hWa, ← hn0]; simp
  have sb : Wb.heap.size = n0 + 1 + 1 := by rw [← hWb, World.size_alloc, sa]
  have sc : Wc.heap.size = n0 + 1 + 1 + 1 := by rw [← hWc, World.size_alloc, sb]
  have sd : W1.heap.size = n0 + 1 + 1 + 1 + 1 := by rw [← hW1, World.size_alloc, sc]
  have bba : Below n0 w Wa := by rw [← hWa, ← hn0]; exact ext_alloc (Below.refl _ _)
  have bab : Below (n0 + 1) Wa Wb := by rw [← hWb, ← sa]; exact ext_alloc (Below.refl _ _)
  have bbc : Below (n0 + 1 + 1) Wb Wc := by rw [← hWc, ← sb]; exact ext_alloc (Below.refl _ _)
  have bcd : Below (n0 + 1 + 1 + 1) Wc W1 := by rw [← hW1, ← sc]; exact ext_alloc (Below.refl _ _)
  have ra : Wa.heap[n0]? = some (.cells #[.int .i64 10, .int .i64 2] 48 (0, 0)) := by rw [← hWa, ← hn0]; exact heap_alloc_new _ _
  have rb : Wb.heap[n0 + 1]? = some (.cells #[.int .i64 1, .slice (some ⟨n0, 0, none⟩) 1 1] 24 (0, 0)) := by rw [← hWb, ← sa]; exact heap_alloc_new _ _
  have rc : Wc.heap[n0 + 1 + 1]? = some (.cells #[.int .i64 3, .int .i64 8, .int .i64 12, .int .i64 15, .int .i64 21, .int .i64 24] 3 (0, 0)) := by rw [← hWc, ← sb]; exact heap_alloc_new _ _
  have rd : W1.heap[n0 + 1 + 1 + 1]? = some (.cells #[.int .i64 5, .int .i64 1, .int .i64 10, .int .i64 7] 48 (0, 0)) := by rw [← hW1, ← sc]; exact heap_alloc_new _ _
  have bac := bab.trans (bbc.mono (by omega))
  have ra1 := (bcd.block n0 (by omega)).trans ((bac.block n0 (by omega)).trans ra)
  have rb1 := (bcd.block (n0 + 1) (by omega)).trans ((bbc.block (n0 + 1) (by omega)).trans rb)
  have rc1 := (bcd.block (n0 + 1 + 1) (by omega)).trans rc
  have hB1 : Below n0 w W1 := (bba.trans (bac.mono (by omega))).trans (bcd.mono (by omega))
  have RP : SlAt encExt W1 (Bl W1.heap.size) (some ⟨n0, 0, none⟩) [(10, 2)] := litS (E := encExt) (S0 := fun _ => False) (css := [[.int .i64 10, .int .i64 2]]) ra1 rfl ⟨ext_mk (x := (10, 2)) (by unfold I64; omega) (by unfold I64; omega), trivial⟩ (fun _ h => h.elim) (by show n0 < _; omega) (fun h => h)
  have RQ : SlAt encExt W1 (Bl W1.heap.size) (some ⟨n0 + 1 + 1 + 1, 0, none⟩) [(5, 1), (10, 7)] := litS (E := encExt) (S0 := fun _ => False) (css := [[.int .i64 5, .int .i64 1], [.int .i64 10, .int .i64 7]]) rd rfl ⟨ext_mk (x := (5, 1)) (by unfold I64; omega) (by unfold I64; omega), ext_mk (x := (10, 7)) (by unfold I64; omega) (by unfold I64; omega), trivial⟩ (fun _ h => h.elim) (by show n0 + 1 + 1 + 1 < _; omega) (fun h => h)
  have RL : SlAt encInt W1 (Bl W1.heap.size) (some ⟨n0 + 1 + 1, 0, none⟩) awL := (litInts (l := awL) rc1 rfl (by unfold awL I64; simp)).more (fun g hg => by show g < _; omega)
  have HPP : Hid (∀ W, Below W1.heap.size W1 W → (W.cell? ⟨n0 + 1, 0, none⟩ = some (.int .i64 1) ∧ W.cell? ⟨n0 + 1, 1, none⟩ = some (.slice (some ⟨n0, 0, none⟩) 1 1)) ∧ SlAt encExt W (Bl W.heap.size) (some ⟨n0, 0, none⟩) [(10, 2)] ∧ SlAt encInt W (Bl W.heap.size) (some ⟨n0 + 1 + 1, 0, none⟩) awL) := fun W hb => by
    obtain ⟨a, b, _⟩ := blk2 ((hb.block (n0 + 1) (by omega)).trans rb1)
    exact ⟨⟨a, b⟩, RP.fwd hb, RL.fwd hb⟩
  have HC := Lib.hid (merge_any (some ⟨n0, 0, none⟩) (some ⟨n0 + 1 + 1 + 1, 0, none⟩) 1 2 1 2 1 0 [(10, 2)] [(5, 1), (10, 7)] W1 rfl rfl RP RQ (by unfold maxLen; omega) (by unfold maxLen; omega))
  obtain ⟨p0, p1, _⟩ := blk2 rb1
  obtain ⟨q0, q1, _⟩ := blk2 ((bbc.block (n0 + 1) (by omega)).trans rb)
  clear ra rb rc rd ra1 rb1 rc1 RP RQ RL bba bab bbc bcd bac
  go_enter Tryz.func5, Tryz.ntmps5
  go_wp2_with fail
  refine HC.out.mono ?_
  rintro e w5 he
  obtain ⟨A5, c5, rfl, h5, hb5⟩ := awMerge he
  obtain ⟨b, off, rfl, hb, g0, g1, _, _⟩ := h5.ext (k := 0) (by decide)
  obtain ⟨b', off', e', _, g2, g3, _, _⟩ := h5.ext (k := 1) (by decide)
  simp only [Option.some.injEq, Addr.mk.injEq, and_true] at e'
  obtain ⟨rfl, rfl⟩ := e'
  obtain ⟨W6, hW6⟩ : ∃ W, w5.alloc (.cells #[.int .i64 1, .slice (some ⟨b, off, none⟩) 2 c5] 24) = W := ⟨_, rfl⟩
  obtain ⟨m5, hm5⟩ : ∃ m, w5.heap.size = m := ⟨_, rfl⟩
  have hb56 : Below m5 w5 W6 := by rw [← hW6, ← hm5]; exact ext_alloc (Below.refl _ _)
  have hr6 : W6.heap[m5]? = some (.cells #[.int .i64 1, .slice (some ⟨b, off, none⟩) 2 c5] 24 (0, 0)) := by rw [← hW6, ← hm5]; exact heap_alloc_new _ _
  have hz5 := hb5.size
  have hb16 : Below W1.heap.size W1 W6 := hb5.trans (hb56.mono (by omega))
  have h6 : SlAt encExt W6 (Bl m5) (some ⟨b, off, none⟩) [(5, 1), (10, 7)] := (h5.blk (fun g hg => hb56.block g (by have := hg.2; omega))).more (fun g hg => by have := hg.2; show g < m5; omega)
  have hbl : b < m5 := by have := hb.2; omega
  have k0 : W6.cell? ⟨b, off, none⟩ = some (.int .i64 5) := (hb56.cell (p := ⟨b, off, none⟩) hbl).trans (by simpa using g0)
  have k1 : W6.cell? ⟨b, off + 1, none⟩ = some (.int .i64 1) := (hb56.cell (p := ⟨b, off + 1, none⟩) hbl).trans (by simpa using g1)
  have k2 : W6.cell? ⟨b, off + 2, none⟩ = some (.int .i64 10) := (hb56.cell (p := ⟨b, off + 2, none⟩) hbl).trans (by simpa using g2)
  have k3 : W6.cell? ⟨b, off + 2 + 1, none⟩ = some (.int .i64 7) := (hb56.cell (p := ⟨b, off + 2 + 1, none⟩) hbl).trans (by simpa using g3)
  have k3' : W6.cell? ⟨b, off + 3, none⟩ = some (.int .i64 7) := k3
  obtain ⟨y0, y1, _⟩ := blk2 hr6
  obtain ⟨n6, hn6⟩ : ∃ n, W6.heap.size = n := ⟨_, rfl⟩
  have hm6 : m5 < n6 := by rw [← hn6]; exact (Array.getElem?_eq_some_iff.1 hr6).1
  have HPM : Hid (∀ W, Below n6 W6 W → ((W.cell? ⟨n0 + 1, 0, none⟩ = some (.int .i64 1) ∧ W.cell? ⟨n0 + 1, 1, none⟩ = some (.slice (some ⟨n0, 0, none⟩) 1 1)) ∧ SlAt encExt W (Bl W.heap.size) (some ⟨n0, 0, none⟩) [(10, 2)] ∧ SlAt encInt W (Bl W.heap.size) (some ⟨n0 + 1 + 1, 0, none⟩) awL) ∧ (W.cell? ⟨m5, 0, none⟩ = some (.int .i64 1) ∧ W.cell? ⟨m5, 1, none⟩ = some (.slice (some ⟨b, off, none⟩) 2 c5)) ∧ SlAt encExt W (Bl W.heap.size) (some ⟨b, off, none⟩) [(5, 1), (10, 7)]) := fun W hbW => by
    have hx : Below W1.heap.size W1 W := hb16.trans (hbW.mono (by have := hb16.size; omega))
    obtain ⟨a, d, _⟩ := blk2 ((hbW.block m5 hm6).trans hr6)
    have hs := hbW.size
    exact ⟨HPP.out W hx, ⟨a, d⟩, (h6.blk (fun g hg => hbW.block g (by have : g < m5 := hg; omega))).more (fun g hg => by have : g < m5 := hg; show g < _; omega)⟩
  have HE1 := fun W => run_eq_rule W 5 1 5 1
  have HE2 := fun W => run_eq_rule W 10 7 10 7
  have hq1 : (((5 : Int), (1 : Int)) == (5, 1)) = true := rfl
  have hq2 : (((10 : Int), (7 : Int)) == (10, 7)) = true := rfl
  have hBw6 : Below n0 w W6 := hB1.trans (hb16.mono (by omega))
  have hn06 : n0 ≤ n6 := by have := hBw6.size; omega
  clear he h5 h6 g0 g1 g2 g3 p0 p1 q0 q1 hb hr6 hWa hWb hWc hW1 sa sb sc sd HC
  go_upto_region 6 with (fail)
  obtain ⟨W7, hW7⟩ : ∃ W, (W6.alloc (.cells #[.int .u8 0, .int .u8 0, .int .u8 0, .int .u8 0, .int .u8 0, .int .u8 0, .int .u8 0, .int .u8 0] 54)).alloc (.cells #[.slice (some ⟨n6, 0, none⟩) 1 1] 55) = W := ⟨_, rfl⟩
  have hb7 : Below n6 W6 W7 := by rw [← hW7, ← hn6]; exact ext_alloc (ext_alloc (Below.refl _ _))
  have hs7 : W7.heap.size = n6 + 2 := by rw [← hW7, ← hn6]; simp
  have hI7 : SlAt (encSl encSec) W7 (Bl W7.heap.size) (some ⟨n6 + 1, 0, none⟩) (imgB [0]) := (litImg (l := [0]) (cs := #[.int .u8 0, .int .u8 0, .int .u8 0, .int .u8 0, .int .u8 0, .int .u8 0, .int .u8 0, .int .u8 0]) (n := 1) (c := 1) (T1 := 54) (T2 := 55) (g1 := n6) (g2 := n6 + 1) (by rw [← hW7, ← hn6]; exact (Below.heap_alloc _ _ _ (by simp)).trans (heap_alloc_new _ _)) rfl (by decide) (by rw [← hW7, ← hn6]; exact heap_new2 _ _ _) rfl (by decide) (by omega)).more (fun g hg => by show g < _; omega)
  have HNW := Lib.hid (snNew_any (some ⟨n6 + 1, 0, none⟩) 1 1 (imgB [0]) W7 rfl hI7 (fewS_lim ap_few.1).1)
  clear y0 y1 k0 k1 k2 k3 k3' HE1 HE2 hI7
  go_wp2_with fail
  try rw [hn6]
  try rw [hW7]
  refine HNW.out.mono ?_
  rintro e w8 he
  obtain ⟨B2, vc2, D2, dc2, mid2, rfl, hn2, hs2, hb2⟩ := AwR.of (n := 1) (m := 0) he ap_1.1 ap_1.2 ⟨rfl, rfl⟩
  have hA2 := AwI.made hs2 hn2 hb2.size
  have hz2 := hb2.size
  have hB3 : Below n6 W6 (w8.alloc (.cells #[.slice B2 1 vc2, .slice D2 0 dc2] 29)) := (hb7.trans (hb2.mono (by omega))).alloc (by omega) _
  obtain ⟨t, ht⟩ : ∃ t, w8.heap.size = t := ⟨_, rfl⟩
  have hnt : n6 ≤ t := by omega
  clear he hs2 hb2 hn2 hb7 HNW hW7
  go_upto_region 7 with (fail)
  generalize w8.alloc (.cells #[.slice B2 1 vc2, .slice D2 0 dc2] 29) = W3 at hA2 hB3 ⊢
  rw [ht] at hA2
  try rw [ht]
  have hA := Lib.hid hA2
  clear hA2 hs7 hz2 ht
  obtain ⟨c0, c1, cf⟩ := blk2 hA.out.1
  have htl : t < W3.heap.size := hA.out.lt
  have HTK := Lib.hid (awTake (s' := ap2) (n' := 1) (m' := 1) hA.out (num := 1) (tm := 3) ⟨by unfold I64; omega, by unfold I64; omega⟩ ap_few.1 ap_2 ⟨rfl, rfl⟩)
  go_wp2_with fail
  refine HTK.out.mono ?_
  rintro e w5 ⟨B5, vc5, D5, dc5, mid5, rfl, hn5, hs5, hb5⟩
  have hA5 := Lib.hid (hA.out.below hb5)
  clear c0 c1 cf HTK
  obtain ⟨v0, v1, vf⟩ := blk2 hA5.out.1
  have hA6 := AwI.store hs5 hA5.out.1 htl hn5
  have hB6 : Below n6 W6 ((w5.setCell ⟨t, 0, none⟩ (.slice B5 1 vc5)).setCell ⟨t, 1, none⟩ (.slice D5 1 dc5)) := (((hB3.trans (hb5.mono (by omega))).setCell (p := ⟨t, 0, none⟩) hnt (.slice B5 1 vc5)).setCell (p := ⟨t, 1, none⟩) hnt (.slice D5 1 dc5))
  have HA6 := Lib.hid hA6
  have HB6 := Lib.hid hB6
  have HCP : Hid ((1 ≤ vc5 ∧ vc5 ≤ maxLen) ∧ 1 ≤ dc5 ∧ dc5 ≤ maxLen) := by
    obtain ⟨⟨a1, a2, _⟩, a3, a4, _⟩ := hs5.read
    rw [hn5.1] at a1
    rw [hn5.2] at a3
    exact ⟨⟨a1, a2⟩, a3, a4⟩
  clear hA6 hB6 hs5 hn5 hb5
  go_upto_region 8 with (fail)
  have hA6 := HA6.out
  have hB6 := HB6.out
  clear hA hB3 hA5 htl HA6 HB6 v0 v1 vf
  generalize (w5.setCell ⟨t, 0, none⟩ (.slice B5 1 vc5)).setCell ⟨t, 1, none⟩ (.slice D5 1 dc5) = W8 at hA6 hB6 ⊢
  have hAB := And.intro hA6 hB6
  clear hA6 hB6
  revert W8
  intro W3 hAB
  have hA := Lib.hid hAB.1
  have hB3 := hAB.2
  clear hAB
  obtain ⟨c0, c1, cf⟩ := blk2 hA.out.1
  have htl : t < W3.heap.size := hA.out.lt
  have HTK := Lib.hid (awTake (s' := ap3) (n' := 1) (m' := 2) hA.out (num := 2) (tm := 8) ⟨by unfold I64; omega, by unfold I64; omega⟩ ap_few.2.1 ap_3 ⟨rfl, rfl⟩)
  go_wp2_with fail
  refine HTK.out.mono ?_
  rintro e w5 ⟨B5, vc5, D5, dc5, mid5, rfl, hn5, hs5, hb5⟩
  have hA5 := Lib.hid (hA.out.below hb5)
  clear c0 c1 cf HTK
  obtain ⟨v0, v1, vf⟩ := blk2 hA5.out.1
  have hA6 := AwI.store hs5 hA5.out.1 htl hn5
  have hB6 : Below n6 W6 ((w5.setCell ⟨t, 0, none⟩ (.slice B5 1 vc5)).setCell ⟨t, 1, none⟩ (.slice D5 2 dc5)) := (((hB3.trans (hb5.mono (by omega))).setCell (p := ⟨t, 0, none⟩) hnt (.slice B5 1 vc5)).setCell (p := ⟨t, 1, none⟩) hnt (.slice D5 2 dc5))
  have HA6 := Lib.hid hA6
  have HB6 := Lib.hid hB6
  have HCP : Hid ((1 ≤ vc5 ∧ vc5 ≤ maxLen) ∧ 2 ≤ dc5 ∧ dc5 ≤ maxLen) := by
    obtain ⟨⟨a1, a2, _⟩, a3, a4, _⟩ := hs5.read
    rw [hn5.1] at a1
    rw [hn5.2] at a3
    exact ⟨⟨a1, a2⟩, a3, a4⟩
  clear hA6 hB6 hs5 hn5 hb5
  go_upto_region 9 with (fail)
  have hA6 := HA6.out
  have hB6 := HB6.out
  clear hA hB3 hA5 htl HA6 HB6 v0 v1 vf
  generalize (w5.setCell ⟨t, 0, none⟩ (.slice B5 1 vc5)).setCell ⟨t, 1, none⟩ (.slice D5 2 dc5) = W8 at hA6 hB6 ⊢
  have hAB := And.intro hA6 hB6
  clear hA6 hB6
  revert W8
  intro W3 hAB
  have hA := Lib.hid hAB.1
  have hB3 := hAB.2
  clear hAB
  have htl : t < W3.heap.size := hA.out.lt
  obtain ⟨c0, c1, cf⟩ := blk2 hA.out.1
  obtain ⟨⟨⟨p0, p1⟩, P1, P2⟩, ⟨q0, q1⟩, Q1⟩ := HPM.out W3 hB3
  have HPR := Lib.hid (prune_any (some ⟨n0, 0, none⟩) B5 D5 none 1 vc5 dc5 0 1 1 2 0 1 9 [(10, 2)] (imgB [0]) ap3.2 [] W3 rfl rfl rfl rfl P1 hA.out.img hA.out.its SlAt.nil_ (fewS_lim ap_few.2.2).1 (fun x hx => by have := few_sav ap_few.2.2 x hx; omega) (by omega) (by omega) HCP.out.1 HCP.out.2)
  clear P1 P2 Q1
  go_wp2_with fail
  refine HPR.out.mono ?_
  rintro e w10 he
  obtain ⟨B6, vc6, D6, dc6, G, gc, rfl, hg, hb10⟩ := awPrune he
  have hrA := (hb10.block t htl).trans hA.out.1
  have hz10 := hb10.size
  have hn63 : n6 ≤ W3.heap.size := by omega
  have hB10 : Below n6 W6 ((w10.setCell ⟨t, 0, none⟩ (.slice B6 1 vc6)).setCell ⟨t, 1, none⟩ (.slice D6 1 dc6)) := ((hB3.trans (hb10.mono hn63)).setCell (p := ⟨t, 0, none⟩) hnt (.slice B6 1 vc6)).setCell (p := ⟨t, 1, none⟩) hnt (.slice D6 1 dc6)
  have hr10 := blk2_set hrA (.slice B6 1 vc6) (.slice D6 1 dc6)
  have hg10 := hg.nw2 (b := t) (lo := W3.heap.size) (fun g hg => ⟨by have := hg.1; omega, hg.1, hg.2⟩) (.slice B6 1 vc6) (.slice D6 1 dc6)
  have HPK := Lib.hid (And.intro hB10 (And.intro hr10 hg10))
  clear he hg hB10 hr10 hg10 HPR p0 p1 q0 q1 c0 c1 cf
  obtain ⟨c0, c1, cf⟩ := blk2 hrA
  go_upto_region 10 with (fail)
  have hpk := HPK.out
  clear HPK c0 c1 cf hrA
  generalize (w10.setCell ⟨t, 0, none⟩ (.slice B6 1 vc6)).setCell ⟨t, 1, none⟩ (.slice D6 1 dc6) = W10 at hpk ⊢
  obtain ⟨hB10, hr10, hg10⟩ := hpk
  have hg10' : SlAt encInt W10 (Bl W10.heap.size) G [1] := hg10.more (fun g hg => hg.2)
  obtain ⟨d0, d1, _⟩ := blk2 hr10
  clear hg10 hA hB3 hb10
  obtain ⟨V1, hV1⟩ : ∃ W, W10.alloc (.cells #[.int .i64 1] 3) = W := ⟨_, rfl⟩
  have hbV1 : Below W10.heap.size W10 V1 := by rw [← hV1]; exact ext_alloc (Below.refl _ _)
  have hrV1 : V1.heap[W10.heap.size]? = some (.cells #[.int .i64 1] 3 (0, 0)) := by rw [← hV1]; exact heap_alloc_new _ _
  have hvV1 : Below n6 W6 V1 := hB10.trans (hbV1.mono (by have := hB10.size; omega))
  have HEV1 := Lib.hid (eqInts_any G (some ⟨W10.heap.size, 0, none⟩) gc 1 1 1 _ _ [1] [1] true V1 rfl rfl (by simp) (hg10'.fwd hbV1) (litInts (l := [1]) hrV1 rfl (by unfold I64; simp)) (by omega) (by omega))
  clear hbV1 hrV1
  go_wp2_with fail
  refine HEV1.out.mono ?_
  rintro e w11 ⟨rfl, hdV1⟩
  have hBw11 : Below n6 W6 w11 := hvV1.trans (hdV1.below _)
  clear hV1 hdV1 HEV1 hvV1 hg10'
  try clear d0 d1
  obtain ⟨⟨⟨p0, p1⟩, P1, P2⟩, ⟨q0, q1⟩, Q1⟩ := HPM.out w11 hBw11
  have HKK1 := Lib.hid (keep_any (some ⟨n0, 0, none⟩) (some ⟨n0 + 1 + 1, 0, none⟩) 1 6 6 1 1 25 [(10, 2)] awL [3, 5] w11 rfl rfl ap_k.1 P1 P2 (by omega) (by omega))
  clear P1 P2 Q1
  go_wp2_with fail
  refine HKK1.out.mono ?_
  rintro e w12 he
  obtain ⟨K1, kcK1, rfl, hk0, hbw12⟩ := awKeep25 he (l := [3, 5]) (k := 2) rfl rfl
  have hkw12 : SlAt encInt w12 (Bl w12.heap.size) K1 [3, 5] := hk0.more (fun g hg => hg.2)
  have hBw12 : Below n6 W6 w12 := hBw11.trans (hbw12.mono (by have := hBw11.size; omega))
  clear he hk0 hbw12 HKK1 p0 p1 q0 q1
  obtain ⟨V2, hV2⟩ : ∃ W, w12.alloc (.cells #[.int .i64 3, .int .i64 5] 3) = W := ⟨_, rfl⟩
  have hbV2 : Below w12.heap.size w12 V2 := by rw [← hV2]; exact ext_alloc (Below.refl _ _)
  have hrV2 : V2.heap[w12.heap.size]? = some (.cells #[.int .i64 3, .int .i64 5] 3 (0, 0)) := by rw [← hV2]; exact heap_alloc_new _ _
  have hvV2 : Below n6 W6 V2 := hBw12.trans (hbV2.mono (by have := hBw12.size; omega))
  have HEV2 := Lib.hid (eqInts_any K1 (some ⟨w12.heap.size, 0, none⟩) kcK1 2 2 2 _ _ [3, 5] [3, 5] true V2 rfl rfl (by simp) (hkw12.fwd hbV2) (litInts (l := [3, 5]) hrV2 rfl (by unfold I64; simp)) (by omega) (by omega))
  clear hbV2 hrV2
  go_wp2_with fail
  refine HEV2.out.mono ?_
  rintro e w13 ⟨rfl, hdV2⟩
  have hBw13 : Below n6 W6 w13 := hvV2.trans (hdV2.below _)
  clear hV2 hdV2 HEV2 hvV2 hkw12
  try clear d0 d1
  obtain ⟨⟨⟨p0, p1⟩, P1, P2⟩, ⟨q0, q1⟩, Q1⟩ := HPM.out w13 hBw13
  have HKK2 := Lib.hid (keep_any (some ⟨n0, 0, none⟩) (some ⟨n0 + 1 + 1, 0, none⟩) 1 6 6 1 1 30 [(10, 2)] awL [5] w13 rfl rfl ap_k.2 P1 P2 (by omega) (by omega))
  clear P1 P2 Q1
  go_wp2_with fail
  refine HKK2.out.mono ?_
  rintro e w14 he
  obtain ⟨K2, kcK2, rfl, hk0, hbw14⟩ := awKeep25 he (l := [5]) (k := 1) rfl rfl
  have hkw14 : SlAt encInt w14 (Bl w14.heap.size) K2 [5] := hk0.more (fun g hg => hg.2)
  have hBw14 : Below n6 W6 w14 := hBw13.trans (hbw14.mono (by have := hBw13.size; omega))
  clear he hk0 hbw14 HKK2 p0 p1 q0 q1
  obtain ⟨V3, hV3⟩ : ∃ W, w14.alloc (.cells #[.int .i64 5] 3) = W := ⟨_, rfl⟩
  have hbV3 : Below w14.heap.size w14 V3 := by rw [← hV3]; exact ext_alloc (Below.refl _ _)
  have hrV3 : V3.heap[w14.heap.size]? = some (.cells #[.int .i64 5] 3 (0, 0)) := by rw [← hV3]; exact heap_alloc_new _ _
  have hvV3 : Below n6 W6 V3 := hBw14.trans (hbV3.mono (by have := hBw14.size; omega))
  have HEV3 := Lib.hid (eqInts_any K2 (some ⟨w14.heap.size, 0, none⟩) kcK2 1 1 1 _ _ [5] [5] true V3 rfl rfl (by simp) (hkw14.fwd hbV3) (litInts (l := [5]) hrV3 rfl (by unfold I64; simp)) (by omega) (by omega))
  clear hbV3 hrV3
  go_wp2_with fail
  refine HEV3.out.mono ?_
  rintro e w15 ⟨rfl, hdV3⟩
  have hBw15 : Below n6 W6 w15 := hvV3.trans (hdV3.below _)
  clear hV3 hdV3 HEV3 hvV3 hkw14
  try clear d0 d1
  obtain ⟨⟨⟨p0, p1⟩, P1, P2⟩, ⟨q0, q1⟩, Q1⟩ := HPM.out w15 hBw15
  have HMS := Lib.hid (polMost_any (some ⟨b, off, none⟩) c5 2 1 [(5, 1), (10, 7)] 9 w15 rfl ap_t Q1 (by omega))
  clear P1 P2 Q1
  go_wp2_with fail
  refine HMS.out.mono ?_
  rintro e w16 ⟨rfl, hb16'⟩
  have hBE : Below n0 w w16 := (hBw6.trans (hBw15.mono hn06)).trans (hb16'.mono (by have := hBw15.size; omega))
  clear p0 p1 q0 q1
  go_wp2_with fail
  go_ret
  exact ⟨rfl, hBE⟩
end Go.Proofs.YtnkmklnlaepdeaaGreat
