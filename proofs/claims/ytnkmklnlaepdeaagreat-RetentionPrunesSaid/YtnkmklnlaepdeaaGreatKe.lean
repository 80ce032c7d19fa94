/-
  snapshot.New, Take, Cost: the walks.
-/
import Derived.Test.YtnkmklnlaepdeaaGreatSn1
set_option linter.unusedVariables false
set_option linter.unusedSimpArgs false
set_option linter.unusedSectionVars false
set_option linter.unnecessarySimpa false
namespace Go.Proofs.YtnkmklnlaepdeaaGreat
open Go.RowKit Go.Shelf
attribute [local go_sem] Oper.semAt_some

section
variable {im : Img} {l : List Snp} {A D : Option Addr} {c d mid lo : Nat} {w w' : World}
theorem SnRet.keep (h : SnRet im l A c D d mid lo w) (hs : w.heap.size ≤ w'.heap.size) (hk : ∀ g, lo ≤ g → g < w.heap.size → w'.heap[g]? = w.heap[g]?) : SnRet im l A c D d mid lo w' := by
  obtain ⟨h1, h2, h3, h4, h5, h6⟩ := h
  exact ⟨h1, h2, h3, by omega, h5.blk (fun g hg => hk g hg.1 (by have := hg.2; omega)), h6.keep hs (fun g hg hl _ => hk g (by omega) hl)⟩
theorem SnRet.below (h : SnRet im l A c D d mid lo w) (hb : Below w.heap.size w w') : SnRet im l A c D d mid lo w' := h.keep hb.size (fun g _ hg => hb.block g hg)
theorem SnRet.set (h : SnRet im l A c D d mid lo w) {p : Addr} (hp : p.block < lo) (u : Value) : SnRet im l A c D d mid lo (w.setCell p u) :=
  h.keep (by simp [World.setCell]) (fun g hg _ => Below.heap_setCell _ _ _ _ (by omega))
theorem SnRet.low (h : SnRet im l A c D d mid lo w) {lo' : Nat} (hl : lo' ≤ lo) : SnRet im l A c D d mid lo' w := by
  obtain ⟨h1, h2, h3, h4, h5, h6⟩ := h
  exact ⟨h1, h2, by omega, h4, h5.more (fun g hg => hg.mono hl (Nat.le_refl _)), h6⟩
theorem SnRet.zero {lo : Nat} (h : lo ≤ w.heap.size) : SnRet [] [] none 0 none 0 lo lo w := ⟨by simp, by simp, Nat.le_refl _, h, SlAt.nil_, OwnX.nil_⟩
/-- read as data -/
theorem SnRet.read (h : SnRet im l A c D d mid lo w) : (im.length ≤ c ∧ c ≤ maxLen ∧ SlAt (encSl encSec) w (Nw lo w.heap.size) A im) ∧ (l.length ≤ d ∧ d ≤ maxLen ∧ SlAt encSnp w (Nw lo w.heap.size) D l) := by
  obtain ⟨h1, h2, h3, h4, h5, h6⟩ := h
  obtain ⟨_, a, b, e⟩ := h6.parts
  exact ⟨⟨h1, h2, h5.more (fun g hg => hg.mono (Nat.le_refl _) h4)⟩, a, b, e.more (fun g hg => hg.1.mono h3 (Nat.le_refl _))⟩
end
def SnRetE (s : Sns) (n : Int) (w : World) (e : Ending) (w' : World) : Prop :=
  ∃ B vc D dc mid, e = .returned (.tuple #[.agg #[.slice B s.1.length vc, .slice D s.2.length dc], .int .i64 n]) ∧ SnRet s.1 s.2 B vc D dc mid w.heap.size w' ∧ Below w.heap.size w w'
set_option maxHeartbeats 1000000 in
theorem snNew_any (A : Option Addr) (c n : Nat) (im : Img) (w : World) (hn : im.length = n) (h1 : SlAt (encSl encSec) w (Bl w.heap.size) A im) (hL : SnLim im []) :
    Calls Tryz.prog 13 #[.slice A n c] w (SnRetE (newS im) (sizesN (lens im)) w) := by
  subst hn
  have H1 : Hid (∀ w', Below w.heap.size w w' → SlAt (encSl encSec) w' (Bl w.heap.size) A im) := fun w' hb => h1.below hb
  have HLM := Lib.hid hL
  have hl1 := hL.ims
  clear h1 hL
  obtain ⟨n0, hn0⟩ : ∃ n0, w.heap.size = n0 := ⟨_, rfl⟩
  obtain ⟨W0, hW0⟩ : ∃ W0, w.alloc (.cells #[.slice none 0 0, .slice none 0 0] 29) = W0 := ⟨_, rfl⟩
  have hB0 : Below n0 w W0 := by rw [← hW0, ← hn0]; exact ext_alloc (Below.refl _ _)
  have hs0 : n0 < W0.heap.size := by rw [← hW0, ← hn0]; simp
  have hr0 : W0.heap[n0]? = some (.cells #[.slice none 0 0, .slice none 0 0] 29 (0, 0)) := by rw [← hW0, ← hn0]; exact heap_alloc_new _ _
  obtain ⟨s0, hs0'⟩ : ∃ s0, Hid (sizesN (lens im) = s0) := ⟨_, rfl⟩
  have HIC := Lib.hid (imgCheck_any A c im.length im W0 rfl ((H1.out W0 (by rw [hn0]; exact hB0)).more (fun g hg => by have : g < w.heap.size := hg; show g < W0.heap.size; omega)) (by omega) s0 hs0'.out)
  go_enter Tryz.func13, Tryz.ntmps13
  go_wp2_with fail
  refine HIC.out.mono ?_
  rintro e w1 ⟨rfl, hb1⟩
  have hbw1 : Below n0 w w1 := hB0.trans (hb1.mono (by omega))
  have hr1 := (hb1.block n0 hs0).trans hr0
  have hz1 := hb1.size
  obtain ⟨q0, q1, qf⟩ := blk2 hr1
  clear HIC hW0 hr0
  by_cases hx0 : s0 = 0
  case neg =>
    have hx0' : (s0 != 0) = true := by simp [hx0]
    have hE : Hid (newS im = zSns) := by rw [Hid, newS, hs0'.out, if_neg hx0]
    clear hx0
    go_wp2_with fail
    have hz := blk2_set hr1 (.slice none 0 0) (.slice none 0 0)
    have hbe := ((hbw1.setCell (p := ⟨n0, 0, none⟩) (Nat.le_refl n0) (.slice none 0 0)).setCell (p := ⟨n0, 1, none⟩) (Nat.le_refl n0) (.slice none 0 0))
    have hse := (SnRet.zero (w := (w1.setCell ⟨n0, 0, none⟩ (.slice none 0 0)).setCell ⟨n0, 1, none⟩ (.slice none 0 0)) (lo := n0) (by simp [World.setCell]; omega))
    change bodyPost _ _ _ _ _ ((w1.setCell ⟨n0, 0, none⟩ (.slice none 0 0)).setCell ⟨n0, 1, none⟩ (.slice none 0 0))
    generalize (w1.setCell ⟨n0, 0, none⟩ (.slice none 0 0)).setCell ⟨n0, 1, none⟩ (.slice none 0 0) = W3 at hz hbe hse ⊢
    obtain ⟨z0, z1, _⟩ := blk2 hz
    refine bodyPost_ret (v := .tuple #[.agg #[(.slice none 0 0), (.slice none 0 0)], .int .i64 s0]) ?_ rfl ?_
    · simp [results, Tryz.results13, Tryz.f13, go_sem, z0, z1]
    rw [hE.out, hs0'.out]
    exact ⟨none, 0, none, 0, n0, rfl, by rw [hn0]; exact hse, by rw [hn0]; exact hbe⟩
  have hx0' : (s0 != 0) = false := by simp [hx0]
  have hE : Hid (newS im = (im, [])) := by rw [Hid, newS, hs0'.out, if_pos hx0]
  have HX := Lib.hid hx0
  clear hx0
  have HCP := Lib.hid (copied36_any A none c 0 im.length 0 im [] w1 rfl rfl ((H1.out w1 (by rw [hn0]; exact hbw1)).more (fun g hg => by have : g < w.heap.size := hg; show g < w1.heap.size; omega)) SlAt.nil_ HLM.out)
  go_wp2_with fail
  refine HCP.out.mono ?_
  rintro e w2 ⟨B, vc, D, dc, mid, rfl, hsn, hb2⟩
  have hr2 := (hb2.block n0 (by omega)).trans hr1
  have hbw2 : Below n0 w w2 := hbw1.trans (hb2.mono (by omega))
  obtain ⟨q0, q1, qf⟩ := blk2 hr2
  clear HCP
  go_wp2_with fail
  have hz := blk2_set hr2 (.slice B im.length vc) (.slice D 0 dc)
  have hbe := ((hbw2.setCell (p := ⟨n0, 0, none⟩) (Nat.le_refl n0) (.slice B im.length vc)).setCell (p := ⟨n0, 1, none⟩) (Nat.le_refl n0) (.slice D 0 dc))
  have hse := ((hsn.set (p := ⟨n0, 0, none⟩) (by show n0 < w1.heap.size; omega) (.slice B im.length vc)).set (p := ⟨n0, 1, none⟩) (by show n0 < w1.heap.size; omega) (.slice D 0 dc))
  change bodyPost _ _ _ _ _ ((w2.setCell ⟨n0, 0, none⟩ (.slice B im.length vc)).setCell ⟨n0, 1, none⟩ (.slice D 0 dc))
  generalize (w2.setCell ⟨n0, 0, none⟩ (.slice B im.length vc)).setCell ⟨n0, 1, none⟩ (.slice D 0 dc) = W3 at hz hbe hse ⊢
  obtain ⟨z0, z1, _⟩ := blk2 hz
  refine bodyPost_ret (v := .tuple #[.agg #[(.slice B im.length vc), (.slice D 0 dc)], .int .i64 0]) ?_ rfl ?_
  · simp [results, Tryz.results13, Tryz.f13, go_sem, z0, z1]
  rw [hE.out, hs0'.out, HX.out]
  exact ⟨B, vc, D, dc, mid, rfl, hse.low (by omega), by rw [hn0]; exact hbe⟩
set_option maxHeartbeats 4000000 in
set_option maxRecDepth 100000 in
theorem snTake_any (A A2 : Option Addr) (c c2 n m : Nat) (im : Img) (l : List Snp) (num tm : Int) (w : World) (hn : im.length = n) (hm : l.length = m) (h1 : SlAt (encSl encSec) w (Bl w.heap.size) A im) (h2 : SlAt encSnp w (Bl w.heap.size) A2 l) (hL : SnLim im l) (hi : I64 num ∧ I64 tm) :
    Calls Tryz.prog 14 #[.agg #[.slice A n c, .slice A2 m c2], .int .i64 num, .int .i64 tm] w (SnRetE (takeS (im, l) num tm) (takeE (im, l) num tm) w) := by
  subst hn hm
  have H1 : Hid (∀ w', Below w.heap.size w w' → SlAt (encSl encSec) w' (Bl w.heap.size) A im) := fun w' hb => h1.below hb
  have H2 : Hid (∀ w', Below w.heap.size w w' → SlAt encSnp w' (Bl w.heap.size) A2 l) := fun w' hb => h2.below hb
  have HLM := Lib.hid hL
  have hl1 := hL.ims
  have hl2 := hL.its
  have hnum := Lib.hid hi.1
  have htm := Lib.hid hi.2
  clear h1 h2 hL hi
  obtain ⟨n0, hn0⟩ : ∃ n0, w.heap.size = n0 := ⟨_, rfl⟩
  obtain ⟨W0, hW0⟩ : ∃ W0, (w.alloc (.cells #[.slice A im.length c, .slice A2 l.length c2] 29)).alloc (.cells #[.slice none 0 0, .slice none 0 0] 29) = W0 := ⟨_, rfl⟩
  have hB0 : Below n0 w W0 := by rw [← hW0, ← hn0]; exact ext_alloc (ext_alloc (Below.refl _ _))
  have hs0 : n0 + 1 < W0.heap.size := by rw [← hW0, ← hn0]; simp
  have hr0 : W0.heap[n0]? = some (.cells #[.slice A im.length c, .slice A2 l.length c2] 29 (0, 0)) := by rw [← hW0, ← hn0]; exact (Below.heap_alloc _ _ _ (by simp)).trans (heap_alloc_new _ _)
  have hrz0 : W0.heap[n0 + 1]? = some (.cells #[.slice none 0 0, .slice none 0 0] 29 (0, 0)) := by rw [← hW0, ← hn0]; exact heap_new2 _ _ _
  obtain ⟨r, hr⟩ : ∃ r, Hid (snE (im, l) = r) := ⟨_, rfl⟩
  have HCK := Lib.hid (snCheck_any A A2 c c2 im.length l.length im l r W0 rfl rfl hr.out ((H1.out W0 (by rw [hn0]; exact hB0)).more (fun g hg => by have : g < w.heap.size := hg; show g < W0.heap.size; omega)) ((H2.out W0 (by rw [hn0]; exact hB0)).more (fun g hg => by have : g < w.heap.size := hg; show g < W0.heap.size; omega)) hl1 (by omega))
  obtain ⟨c0, c1, _⟩ := blk2 hr0
  go_enter Tryz.func14, Tryz.ntmps14
  go_wp2_with fail
  refine HCK.out.mono ?_
  rintro e w1 ⟨rfl, hb1⟩
  have hbw1 : Below n0 w w1 := hB0.trans (hb1.mono (by omega))
  have hz1 := hb1.size
  have hrz1 := (hb1.block (n0 + 1) hs0).trans hrz0
  have hrp1 := (hb1.block n0 (by omega)).trans hr0
  clear HCK hW0 hr0 hrz0 c0 c1
  by_cases hx0 : r = 0
  case neg =>
    have hx0' : (r != 0) = true := by simp [hx0]
    have hE : Hid (takeE (im, l) num tm = r) := by rw [Hid, takeE, hr.out, if_pos hx0]
    have hS : Hid (takeS (im, l) num tm = zSns) := by rw [Hid, takeS, if_neg (by rw [hE.out]; exact hx0)]
    obtain ⟨q0, q1, qf⟩ := blk2 hrz1
    clear hx0
    go_wp2_with fail
    have hz := blk2_set hrz1 (.slice none 0 0) (.slice none 0 0)
    have hbe := ((hbw1.setCell (p := ⟨n0 + 1, 0, none⟩) (by show n0 ≤ n0 + 1; omega) (.slice none 0 0)).setCell (p := ⟨n0 + 1, 1, none⟩) (by show n0 ≤ n0 + 1; omega) (.slice none 0 0))
    have hse := (SnRet.zero (w := (w1.setCell ⟨n0 + 1, 0, none⟩ (.slice none 0 0)).setCell ⟨n0 + 1, 1, none⟩ (.slice none 0 0)) (lo := n0) (by simp [World.setCell]; omega))
    change bodyPost _ _ _ _ _ ((w1.setCell ⟨(n0 + 1), 0, none⟩ (.slice none 0 0)).setCell ⟨(n0 + 1), 1, none⟩ (.slice none 0 0))
    generalize (w1.setCell ⟨(n0 + 1), 0, none⟩ (.slice none 0 0)).setCell ⟨(n0 + 1), 1, none⟩ (.slice none 0 0) = W3 at hz hbe hse ⊢
    obtain ⟨z0, z1, _⟩ := blk2 hz
    refine bodyPost_ret (v := .tuple #[.agg #[(.slice none 0 0), (.slice none 0 0)], .int .i64 r]) ?_ rfl ?_
    · simp [results, Tryz.results14, Tryz.f14, go_sem, z0, z1]
    rw [hE.out, hS.out]
    exact ⟨none, 0, none, 0, n0, rfl, by rw [hn0]; exact hse, by rw [hn0]; exact hbe⟩
  have hx0' : (r != 0) = false := by simp [hx0]
  have HOK : Hid (snE (im, l) = 0) := by rw [Hid, hr.out, hx0]
  clear hx0 hr
  obtain ⟨c0, c1, _⟩ := blk2 hrp1
  go_upto_region 5 with (fail)
  obtain ⟨lb, hlb⟩ : ∃ lb, w1.heap.size = lb := ⟨_, rfl⟩
  obtain ⟨w2, hw2⟩ : ∃ w2, w1.alloc (.cells #[.int .i64 (-1), .int .i64 0, .slice none 0 0] 45) = w2 := ⟨_, rfl⟩
  rw [hw2, hlb]
  have hb2 : Below lb w1 w2 := by rw [← hw2, ← hlb]; exact ext_alloc (Below.refl _ _)
  have hr2 : w2.heap[lb]? = some (.cells #[.int .i64 (-1), .int .i64 0, .slice none 0 0] 45 (0, 0)) := by rw [← hw2, ← hlb]; exact heap_alloc_new _ _
  have hs2 : lb < w2.heap.size := (Array.getElem?_eq_some_iff.1 hr2).1
  have hrp2 := (hb2.block n0 (by omega)).trans hrp1
  have hrz2 := (hb2.block (n0 + 1) (by omega)).trans hrz1
  have hbw2 : Below n0 w w2 := hbw1.trans (hb2.mono (by omega))
  clear c0 c1 hw2 hb2 hrp1 hrz1
  obtain ⟨c0, c1, _⟩ := blk2 hrp2
  by_cases h0 : l.length = 0
  · have hl0 : l = [] := List.eq_nil_of_length_eq_zero h0
    have hg0 : decide (0 < l.length) = false := decide_eq_false (by omega)
    go_upto_region 8 with (fail)
    obtain ⟨w3, hw3⟩ : ∃ w3, w2 = w3 := ⟨_, rfl⟩
    obtain ⟨ln, hln'⟩ : ∃ ln, (-1 : Int) = ln := ⟨_, rfl⟩
    obtain ⟨lt, hlt'⟩ : ∃ lt, (0 : Int) = lt := ⟨_, rfl⟩
    have hln : Hid (lastN l = ln) := by rw [Hid, hl0, ← hln']; rfl
    have hlt_ : Hid (lastT l = lt) := by rw [Hid, hl0, ← hlt']; rfl
    have hrl3 : w3.heap[lb]? = some (.cells #[.int .i64 ln, .int .i64 lt, .slice none 0 0] 45 (0, 0)) := by rw [← hw3, ← hln', ← hlt']; exact hr2
    have hrz3 : w3.heap[n0 + 1]? = some (.cells #[.slice none 0 0, .slice none 0 0] 29 (0, 0)) := by rw [← hw3]; exact hrz2
    have hbw3 : Below n0 w w3 := by rw [← hw3]; exact hbw2
    have hs3 : lb < w3.heap.size := by rw [← hw3]; exact hs2
    have HCC : Hid (∀ W, Below w3.heap.size w3 W → W.cell? ⟨n0, 0, none⟩ = some (.slice A im.length c) ∧ W.cell? ⟨n0, 1, none⟩ = some (.slice A2 l.length c2)) := fun W hb => by
      obtain ⟨a, b, _⟩ := blk2 ((hb.block n0 (by omega)).trans (by rw [← hw3]; exact hrp2))
      exact ⟨a, b⟩
    rw [hw3]
    clear hw3 hln' hlt' hl0 h0 c0 c1 hr2 hrz2 hrp2 hbw2 hs2
    obtain ⟨l0, l1, _, _⟩ := blk3 hrl3
    obtain ⟨q1, hq1⟩ : ∃ q, Hid (inT num = q) := ⟨_, rfl⟩
    have HI1 := Lib.hid (inT_any num w3 q1 hq1.out)
    go_wp2_with fail
    refine HI1.out.mono ?_
    rintro e w4 ⟨rfl, rfl⟩
    clear HI1
    have hTE : Hid (takeE (im, l) num tm = if inT num = false then 2 else if num ≤ ln then 8 else if inT tm = false ∨ tm < lt then 24 else if 1024 ≤ l.length then 11 else 0) := by rw [Hid, takeE, HOK.out, if_neg (by decide), hln.out, hlt_.out]
    cases q1 with
    | false =>
      have hE : Hid (takeE (im, l) num tm = 2) := (by rw [Hid, hTE.out, if_pos hq1.out])
      have hS : Hid (takeS (im, l) num tm = zSns) := by rw [Hid, takeS, if_neg (by rw [hE.out]; decide)]
      obtain ⟨q0, q1, qf⟩ := blk2 hrz3
      go_wp2_with fail
      have hz := blk2_set hrz3 (.slice none 0 0) (.slice none 0 0)
      have hbe := ((hbw3.setCell (p := ⟨n0 + 1, 0, none⟩) (by show n0 ≤ n0 + 1; omega) (.slice none 0 0)).setCell (p := ⟨n0 + 1, 1, none⟩) (by show n0 ≤ n0 + 1; omega) (.slice none 0 0))
      have hse := (SnRet.zero (w := (w4.setCell ⟨n0 + 1, 0, none⟩ (.slice none 0 0)).setCell ⟨n0 + 1, 1, none⟩ (.slice none 0 0)) (lo := n0) (by simp [World.setCell]; omega))
      change bodyPost _ _ _ _ _ ((w4.setCell ⟨(n0 + 1), 0, none⟩ (.slice none 0 0)).setCell ⟨(n0 + 1), 1, none⟩ (.slice none 0 0))
      generalize (w4.setCell ⟨(n0 + 1), 0, none⟩ (.slice none 0 0)).setCell ⟨(n0 + 1), 1, none⟩ (.slice none 0 0) = W3 at hz hbe hse ⊢
      obtain ⟨z0, z1, _⟩ := blk2 hz
      refine bodyPost_ret (v := .tuple #[.agg #[(.slice none 0 0), (.slice none 0 0)], .int .i64 2]) ?_ rfl ?_
      · simp [results, Tryz.results14, Tryz.f14, go_sem, z0, z1]
      rw [hE.out, hS.out]
      exact ⟨none, 0, none, 0, n0, rfl, by rw [hn0]; exact hse, by rw [hn0]; exact hbe⟩
    | true =>
    by_cases hnl : num ≤ ln
    case pos =>
      have hE : Hid (takeE (im, l) num tm = 8) := (by rw [Hid, hTE.out, if_neg (by rw [hq1.out]; decide), if_pos (by omega)])
      have hS : Hid (takeS (im, l) num tm = zSns) := by rw [Hid, takeS, if_neg (by rw [hE.out]; decide)]
      obtain ⟨q0, q1, qf⟩ := blk2 hrz3
      go_wp2_with fail
      have hz := blk2_set hrz3 (.slice none 0 0) (.slice none 0 0)
      have hbe := ((hbw3.setCell (p := ⟨n0 + 1, 0, none⟩) (by show n0 ≤ n0 + 1; omega) (.slice none 0 0)).setCell (p := ⟨n0 + 1, 1, none⟩) (by show n0 ≤ n0 + 1; omega) (.slice none 0 0))
      have hse := (SnRet.zero (w := (w4.setCell ⟨n0 + 1, 0, none⟩ (.slice none 0 0)).setCell ⟨n0 + 1, 1, none⟩ (.slice none 0 0)) (lo := n0) (by simp [World.setCell]; omega))
      change bodyPost _ _ _ _ _ ((w4.setCell ⟨(n0 + 1), 0, none⟩ (.slice none 0 0)).setCell ⟨(n0 + 1), 1, none⟩ (.slice none 0 0))
      generalize (w4.setCell ⟨(n0 + 1), 0, none⟩ (.slice none 0 0)).setCell ⟨(n0 + 1), 1, none⟩ (.slice none 0 0) = W3 at hz hbe hse ⊢
      obtain ⟨z0, z1, _⟩ := blk2 hz
      refine bodyPost_ret (v := .tuple #[.agg #[(.slice none 0 0), (.slice none 0 0)], .int .i64 8]) ?_ rfl ?_
      · simp [results, Tryz.results14, Tryz.f14, go_sem, z0, z1]
      rw [hE.out, hS.out]
      exact ⟨none, 0, none, 0, n0, rfl, by rw [hn0]; exact hse, by rw [hn0]; exact hbe⟩
    have hnl' : decide (num ≤ ln) = false := decide_eq_false hnl
    have hnl2 : Hid (¬ num ≤ ln) := hnl
    obtain ⟨q2, hq2⟩ : ∃ q, Hid (inT tm = q) := ⟨_, rfl⟩
    have HI2 := Lib.hid (inT_any tm w4 q2 hq2.out)
    clear hnl
    go_wp2_with fail
    refine HI2.out.mono ?_
    rintro e w5 ⟨rfl, rfl⟩
    clear HI2
    cases q2 with
    | false =>
      have hE : Hid (takeE (im, l) num tm = 24) := (by rw [Hid, hTE.out, if_neg (by rw [hq1.out]; decide), if_neg (by have := hnl2.out; omega), if_pos (Or.inl hq2.out)])
      have hS : Hid (takeS (im, l) num tm = zSns) := by rw [Hid, takeS, if_neg (by rw [hE.out]; decide)]
      obtain ⟨q0, q1, qf⟩ := blk2 hrz3
      go_wp2_with fail
      have hz := blk2_set hrz3 (.slice none 0 0) (.slice none 0 0)
      have hbe := ((hbw3.setCell (p := ⟨n0 + 1, 0, none⟩) (by show n0 ≤ n0 + 1; omega) (.slice none 0 0)).setCell (p := ⟨n0 + 1, 1, none⟩) (by show n0 ≤ n0 + 1; omega) (.slice none 0 0))
      have hse := (SnRet.zero (w := (w5.setCell ⟨n0 + 1, 0, none⟩ (.slice none 0 0)).setCell ⟨n0 + 1, 1, none⟩ (.slice none 0 0)) (lo := n0) (by simp [World.setCell]; omega))
      change bodyPost _ _ _ _ _ ((w5.setCell ⟨(n0 + 1), 0, none⟩ (.slice none 0 0)).setCell ⟨(n0 + 1), 1, none⟩ (.slice none 0 0))
      generalize (w5.setCell ⟨(n0 + 1), 0, none⟩ (.slice none 0 0)).setCell ⟨(n0 + 1), 1, none⟩ (.slice none 0 0) = W3 at hz hbe hse ⊢
      obtain ⟨z0, z1, _⟩ := blk2 hz
      refine bodyPost_ret (v := .tuple #[.agg #[(.slice none 0 0), (.slice none 0 0)], .int .i64 24]) ?_ rfl ?_
      · simp [results, Tryz.results14, Tryz.f14, go_sem, z0, z1]
      rw [hE.out, hS.out]
      exact ⟨none, 0, none, 0, n0, rfl, by rw [hn0]; exact hse, by rw [hn0]; exact hbe⟩
    | true =>
    by_cases htl : tm < lt
    case pos =>
      have hE : Hid (takeE (im, l) num tm = 24) := (by rw [Hid, hTE.out, if_neg (by rw [hq1.out]; decide), if_neg (by have := hnl2.out; omega), if_pos (Or.inr (by omega))])
      have hS : Hid (takeS (im, l) num tm = zSns) := by rw [Hid, takeS, if_neg (by rw [hE.out]; decide)]
      obtain ⟨q0, q1, qf⟩ := blk2 hrz3
      go_wp2_with fail
      have hz := blk2_set hrz3 (.slice none 0 0) (.slice none 0 0)
      have hbe := ((hbw3.setCell (p := ⟨n0 + 1, 0, none⟩) (by show n0 ≤ n0 + 1; omega) (.slice none 0 0)).setCell (p := ⟨n0 + 1, 1, none⟩) (by show n0 ≤ n0 + 1; omega) (.slice none 0 0))
      have hse := (SnRet.zero (w := (w5.setCell ⟨n0 + 1, 0, none⟩ (.slice none 0 0)).setCell ⟨n0 + 1, 1, none⟩ (.slice none 0 0)) (lo := n0) (by simp [World.setCell]; omega))
      change bodyPost _ _ _ _ _ ((w5.setCell ⟨(n0 + 1), 0, none⟩ (.slice none 0 0)).setCell ⟨(n0 + 1), 1, none⟩ (.slice none 0 0))
      generalize (w5.setCell ⟨(n0 + 1), 0, none⟩ (.slice none 0 0)).setCell ⟨(n0 + 1), 1, none⟩ (.slice none 0 0) = W3 at hz hbe hse ⊢
      obtain ⟨z0, z1, _⟩ := blk2 hz
      refine bodyPost_ret (v := .tuple #[.agg #[(.slice none 0 0), (.slice none 0 0)], .int .i64 24]) ?_ rfl ?_
      · simp [results, Tryz.results14, Tryz.f14, go_sem, z0, z1]
      rw [hE.out, hS.out]
      exact ⟨none, 0, none, 0, n0, rfl, by rw [hn0]; exact hse, by rw [hn0]; exact hbe⟩
    have htl' : decide (tm < lt) = false := decide_eq_false htl
    have htl2 : Hid (¬ (inT tm = false ∨ tm < lt)) := by rw [Hid, hq2.out]; simp; omega
    clear htl
    obtain ⟨c0, c1⟩ := HCC.out w5 (Below.refl _ _)
    by_cases hfl : (1024 : Int) ≤ l.length
    case pos =>
      have hE : Hid (takeE (im, l) num tm = 11) := (by rw [Hid, hTE.out, if_neg (by rw [hq1.out]; decide), if_neg (by have := hnl2.out; omega), if_neg (by exact htl2.out), if_pos (by omega)])
      have hS : Hid (takeS (im, l) num tm = zSns) := by rw [Hid, takeS, if_neg (by rw [hE.out]; decide)]
      obtain ⟨q0, q1, qf⟩ := blk2 hrz3
      go_wp2_with fail
      have hz := blk2_set hrz3 (.slice none 0 0) (.slice none 0 0)
      have hbe := ((hbw3.setCell (p := ⟨n0 + 1, 0, none⟩) (by show n0 ≤ n0 + 1; omega) (.slice none 0 0)).setCell (p := ⟨n0 + 1, 1, none⟩) (by show n0 ≤ n0 + 1; omega) (.slice none 0 0))
      have hse := (SnRet.zero (w := (w5.setCell ⟨n0 + 1, 0, none⟩ (.slice none 0 0)).setCell ⟨n0 + 1, 1, none⟩ (.slice none 0 0)) (lo := n0) (by simp [World.setCell]; omega))
      change bodyPost _ _ _ _ _ ((w5.setCell ⟨(n0 + 1), 0, none⟩ (.slice none 0 0)).setCell ⟨(n0 + 1), 1, none⟩ (.slice none 0 0))
      generalize (w5.setCell ⟨(n0 + 1), 0, none⟩ (.slice none 0 0)).setCell ⟨(n0 + 1), 1, none⟩ (.slice none 0 0) = W3 at hz hbe hse ⊢
      obtain ⟨z0, z1, _⟩ := blk2 hz
      refine bodyPost_ret (v := .tuple #[.agg #[(.slice none 0 0), (.slice none 0 0)], .int .i64 11]) ?_ rfl ?_
      · simp [results, Tryz.results14, Tryz.f14, go_sem, z0, z1]
      rw [hE.out, hS.out]
      exact ⟨none, 0, none, 0, n0, rfl, by rw [hn0]; exact hse, by rw [hn0]; exact hbe⟩
    have hE : Hid (takeE (im, l) num tm = 0) := by rw [Hid, hTE.out, if_neg (by rw [hq1.out]; decide), if_neg (by have := hnl2.out; omega), if_neg (by exact htl2.out), if_neg (by omega)]
    have hS : Hid (takeS (im, l) num tm = (im, l ++ [(num, tm, [])])) := by rw [Hid, takeS, if_pos hE.out]
    have HCP := Lib.hid (copied36_any A A2 c c2 im.length l.length im l w5 rfl rfl ((H1.out w5 (by rw [hn0]; exact hbw3)).more (fun g hg => by have : g < w.heap.size := hg; show g < w5.heap.size; omega)) ((H2.out w5 (by rw [hn0]; exact hbw3)).more (fun g hg => by have : g < w.heap.size := hg; show g < w5.heap.size; omega)) HLM.out)
    clear hnl2 htl2 hq1 hq2 hTE
    go_wp2_with fail
    refine HCP.out.mono ?_
    rintro e w6 ⟨B, vc, D, dc, mid, rfl, hsn, hb6⟩
    clear HCP c0 c1 l0 l1 hnl' htl'
    go_upto_region 17 with (fail)
    obtain ⟨ob, hob⟩ : ∃ ob, w6.heap.size = ob := ⟨_, rfl⟩
    obtain ⟨w7, hw7⟩ : ∃ w7, w6.alloc (.cells #[.slice B im.length vc, .slice D l.length dc] 29) = w7 := ⟨_, rfl⟩
    rw [hw7, hob]
    have hb7 : Below w6.heap.size w6 w7 := by rw [← hw7]; exact ext_alloc (Below.refl _ _)
    have hr7 : w7.heap[ob]? = some (.cells #[.slice B im.length vc, .slice D l.length dc] 29 (0, 0)) := by rw [← hw7, ← hob]; exact heap_alloc_new _ _
    have hs7 : ob < w7.heap.size := (Array.getElem?_eq_some_iff.1 hr7).1
    have hz6 := hb6.size
    have hsn7 := hsn.below hb7
    obtain ⟨k1, k2, k3, k4, k5, k6⟩ := hsn
    have hO7 : Hid (OwnX (fun g => g = ob) encSnp w7 mid 45 (.slice D l.length dc) l) := (k6.var (X' := fun g => g = ob) (fun g hg => Or.inr (by omega))).below hb7
    have hO8 := Lib.hid (hO7.out.alloc (.cells #[.int .i64 num, .int .i64 tm, .slice none 0 0] 45))
    have hO8o := Lib.hid hO8.out.1
    have hlo := Lib.hid k6.lt
    have hHI := Lib.hid k5
    have HRD : Hid (encSnp.rd (w7.alloc (.cells #[.int .i64 num, .int .i64 tm, .slice none 0 0] 45)) (fun g => Nw mid (w7.alloc (.cells #[.int .i64 num, .int .i64 tm, .slice none 0 0] 45)).heap.size g ∧ ¬ (fun g => g = ob) g ∧ (Value.slice D l.length dc).ownBlock ≠ some g) [.int .i64 num, .int .i64 tm, .slice none 0 0] (num, tm, [])) := snp_mk (x := (num, tm, [])) ⟨hnum.out.1, hnum.out.2⟩ ⟨htm.out.1, htm.out.2⟩ (by simp) (by simp) SlAt.nil_
    have hrz7 : w7.heap[n0 + 1]? = some (.cells #[.slice none 0 0, .slice none 0 0] 29 (0, 0)) := (hb7.block _ (by omega)).trans ((hb6.block _ (by omega)).trans hrz3)
    have hbw7 : Below n0 w w7 := (hbw3.trans (hb6.mono (by omega))).trans (hb7.mono (by omega))
    obtain ⟨o0, o1, _⟩ := blk2 hr7
    have hz7 := hb7.size
    clear k5 k6 hw7 hsn7
    go_wp2_with (at_builtin; refine Hid.out ?_)
    change wpList _ _ _ _ _ _
    refine wpList_app1 (E := encSnp) tySnps rfl _ _ rfl rfl hO8o.out (num, tm, []) [.int .i64 num, .int .i64 tm, .slice none 0 0] rfl HRD.out (heap_alloc_new _ _) (fun _ h => h.1.2) (by simp; omega) (by unfold maxLen; omega) (by omega) ?_
    intro A9 c9 w9 hown9 hg9 hat9
    have hz9 := hg9.size
    rw [World.size_alloc] at hz9
    have hkeep9 : ∀ g, g < w7.heap.size → (Value.slice D l.length dc).ownBlock ≠ some g → w9.heap[g]? = w7.heap[g]? := fun g hg hne => (hg9.block g (by rw [World.size_alloc]; omega) (fun e => hne e.symm)).trans (Below.heap_alloc _ _ _ hg)
    have hro9 := (hkeep9 ob hs7 (fun e => by have := (hlo.out ob e).2; omega)).trans hr7
    have hrz9 := (hkeep9 (n0 + 1) (by omega) (fun e => by have := (hlo.out _ e).1; omega)).trans hrz7
    have hO9 : Hid (OwnX (fun g => g = ob) encSnp (w9.setCell ⟨ob, 1, none⟩ (.slice A9 (l.length + 1) c9)) mid 45 (.slice A9 (l.length + 1) c9) (l ++ [(num, tm, [])])) := (hO8.out.app hown9 hg9 hat9 (fun g hg => by rw [hg]; simp; omega)).set (p := ⟨ob, 1, none⟩) rfl _
    have hbw9 : Below n0 w (w9.setCell ⟨ob, 1, none⟩ (.slice A9 (l.length + 1) c9)) := ((hbw7.alloc (by omega) (.cells #[.int .i64 num, .int .i64 tm, .slice none 0 0] 45)).grown hg9 (by simp; omega) (fun g h => by have := (hlo.out g h).1; omega)).setCell (p := ⟨ob, 1, none⟩) (by show n0 ≤ ob; omega) _
    have hI9 : Hid (SlAt (encSl encSec) (w9.setCell ⟨ob, 1, none⟩ (.slice A9 (l.length + 1) c9)) (Nw w5.heap.size mid) B im) := hHI.out.blk (fun g hg => (heap_setCell_other _ _ _ _ (by have := hg.2; show g ≠ ob; omega)).trans ((hkeep9 g (by have := hg.2; omega) (fun e => by have := (hlo.out g e).1; have := hg.2; omega)).trans (hb7.block g (by have := hg.2; omega))))
    have hro10 := blk2_1 hro9 (.slice A9 (l.length + 1) c9)
    have hrz10 := (heap_setCell_other w9 ⟨ob, 1, none⟩ (n0 + 1) (.slice A9 (l.length + 1) c9) (by show n0 + 1 ≠ ob; omega)).trans hrz9
    have hz10 : mid ≤ (w9.setCell ⟨ob, 1, none⟩ (.slice A9 (l.length + 1) c9)).heap.size := by simp [World.setCell]; omega
    obtain ⟨_, o1, of⟩ := blk2 hro9
    clear hown9 hg9 hat9 hkeep9 HRD
    go_upto_region 18 with (fail)
    generalize w9.setCell ⟨ob, 1, none⟩ (.slice A9 (l.length + 1) c9) = w10 at hO9 hbw9 hI9 hro10 hrz10 hz10 ⊢
    clear o0 o1 of hro9 hrz9
    obtain ⟨o0, o1, _⟩ := blk2 hro10
    obtain ⟨q0, q1, qf⟩ := blk2 hrz10
    go_wp2_with fail
    have hz := blk2_set hrz10 (.slice B im.length vc) (.slice A9 (l.length + 1) c9)
    have hbe := ((hbw9.setCell (p := ⟨n0 + 1, 0, none⟩) (by show n0 ≤ n0 + 1; omega) (.slice B im.length vc)).setCell (p := ⟨n0 + 1, 1, none⟩) (by show n0 ≤ n0 + 1; omega) (.slice A9 (l.length + 1) c9))
    have hse := (((show SnRet im (l ++ [(num, tm, [])]) B vc A9 c9 mid w5.heap.size w10 from ⟨k1, k2, k3, hz10, hI9.out, by have := hO9.out.var (X' := fun _ => False) (fun g hg => hg.elim); simpa using this⟩).set (p := ⟨n0 + 1, 0, none⟩) (by show n0 + 1 < w5.heap.size; omega) (.slice B im.length vc)).set (p := ⟨n0 + 1, 1, none⟩) (by show n0 + 1 < w5.heap.size; omega) (.slice A9 (l.length + 1) c9))
    change bodyPost _ _ _ _ _ ((w10.setCell ⟨(n0 + 1), 0, none⟩ (.slice B im.length vc)).setCell ⟨(n0 + 1), 1, none⟩ (.slice A9 (l.length + 1) c9))
    generalize (w10.setCell ⟨(n0 + 1), 0, none⟩ (.slice B im.length vc)).setCell ⟨(n0 + 1), 1, none⟩ (.slice A9 (l.length + 1) c9) = W3 at hz hbe hse ⊢
    obtain ⟨z0, z1, _⟩ := blk2 hz
    refine bodyPost_ret (v := .tuple #[.agg #[(.slice B im.length vc), (.slice A9 (l.length + 1) c9)], .int .i64 0]) ?_ rfl ?_
    · simp [results, Tryz.results14, Tryz.f14, go_sem, z0, z1]
    rw [hE.out, hS.out]
    exact ⟨B, vc, A9, c9, mid, by simp, hse.low (by omega), by rw [hn0]; exact hbe⟩
  · have hg0 : decide (0 < l.length) = true := decide_eq_true (by omega)
    have hlt : l.length - 1 < l.length := by omega
    obtain ⟨b, off, Dx, dx, rfl, hb, g0, g1, g2, y1, y2, y3, y4, y5⟩ := (H2.out w2 (by rw [hn0]; exact hbw2)).snp hlt
    clear y1 y2 y3 y4 y5
    have hlst : l.getLast? = some (l[l.length - 1]) := by rw [List.getLast?_eq_getElem?, List.getElem?_eq_getElem hlt]
    have hln0 : lastN l = (l[l.length - 1]).1 := by rw [lastN, hlst]; rfl
    have hlt0 : lastT l = (l[l.length - 1]).2.1 := by rw [lastT, hlst]; rfl
    obtain ⟨x, hx⟩ : ∃ x, l[l.length - 1] = x := ⟨_, rfl⟩
    rw [hx] at g0 g1 g2 hln0 hlt0
    obtain ⟨ln, lt, sv⟩ := x
    simp only at g0 g1 g2 hln0 hlt0
    have hln : Hid (lastN l = ln) := hln0
    have hlt_ : Hid (lastT l = lt) := hlt0
    have e4 : ((l.length : Int) - 1).toNat = l.length - 1 := by omega
    have e5 : (1 : Int) ≤ l.length := by omega
    obtain ⟨z0, z1, z2, zf⟩ := blk3 hr2
    clear hln0 hlt0 hx hlst hlt
    go_upto_region 8 with (fail)
    have hrl3 := blk3_all36 hr2 (.int .i64 ln) (.int .i64 lt) (.slice Dx sv.length dx)
    have hne : ∀ g, g ≠ lb → (((w2.setCell ⟨lb, 0, none⟩ (.int .i64 ln)).setCell ⟨lb, 1, none⟩ (.int .i64 lt)).setCell ⟨lb, 2, none⟩ (.slice Dx sv.length dx)).heap[g]? = w2.heap[g]? := fun g hg => (heap_setCell_other _ _ _ _ hg).trans ((heap_setCell_other _ _ _ _ hg).trans (heap_setCell_other _ _ _ _ hg))
    have hrz3 := (hne (n0 + 1) (by omega)).trans hrz2
    have hrp3 := (hne n0 (by omega)).trans hrp2
    have hbw3 : Below n0 w (((w2.setCell ⟨lb, 0, none⟩ (.int .i64 ln)).setCell ⟨lb, 1, none⟩ (.int .i64 lt)).setCell ⟨lb, 2, none⟩ (.slice Dx sv.length dx)) := ((hbw2.setCell (p := ⟨lb, 0, none⟩) (by show n0 ≤ lb; omega) _).setCell (p := ⟨lb, 1, none⟩) (by show n0 ≤ lb; omega) _).setCell (p := ⟨lb, 2, none⟩) (by show n0 ≤ lb; omega) _
    have hs3 : lb < (((w2.setCell ⟨lb, 0, none⟩ (.int .i64 ln)).setCell ⟨lb, 1, none⟩ (.int .i64 lt)).setCell ⟨lb, 2, none⟩ (.slice Dx sv.length dx)).heap.size := by simp [World.setCell]; omega
    generalize (((w2.setCell ⟨lb, 0, none⟩ (.int .i64 ln)).setCell ⟨lb, 1, none⟩ (.int .i64 lt)).setCell ⟨lb, 2, none⟩ (.slice Dx sv.length dx)) = w3 at hrl3 hrz3 hrp3 hbw3 hs3 ⊢
    have HCC : Hid (∀ W, Below w3.heap.size w3 W → W.cell? ⟨n0, 0, none⟩ = some (.slice A im.length c) ∧ W.cell? ⟨n0, 1, none⟩ = some (.slice (some ⟨b, off, none⟩) l.length c2)) := fun W hb => by
      obtain ⟨a, b, _⟩ := blk2 ((hb.block n0 (by omega)).trans hrp3)
      exact ⟨a, b⟩
    obtain ⟨A2, hA2⟩ : ∃ A2, (some ⟨b, off, none⟩ : Option Addr) = A2 := ⟨_, rfl⟩
    rw [hA2] at H2 HCC ⊢
    clear h0 c0 c1 hr2 hrz2 hrp2 hbw2 hs2 hne z0 z1 z2 zf g0 g1 g2 e4 e5 hA2 hrp3
    obtain ⟨l0, l1, _, _⟩ := blk3 hrl3
    obtain ⟨q1, hq1⟩ : ∃ q, Hid (inT num = q) := ⟨_, rfl⟩
    have HI1 := Lib.hid (inT_any num w3 q1 hq1.out)
    go_wp2_with fail
    refine HI1.out.mono ?_
    rintro e w4 ⟨rfl, rfl⟩
    clear HI1
    have hTE : Hid (takeE (im, l) num tm = if inT num = false then 2 else if num ≤ ln then 8 else if inT tm = false ∨ tm < lt then 24 else if 1024 ≤ l.length then 11 else 0) := by rw [Hid, takeE, HOK.out, if_neg (by decide), hln.out, hlt_.out]
    cases q1 with
    | false =>
      have hE : Hid (takeE (im, l) num tm = 2) := (by rw [Hid, hTE.out, if_pos hq1.out])
      have hS : Hid (takeS (im, l) num tm = zSns) := by rw [Hid, takeS, if_neg (by rw [hE.out]; decide)]
      obtain ⟨q0, q1, qf⟩ := blk2 hrz3
      go_wp2_with fail
      have hz := blk2_set hrz3 (.slice none 0 0) (.slice none 0 0)
      have hbe := ((hbw3.setCell (p := ⟨n0 + 1, 0, none⟩) (by show n0 ≤ n0 + 1; omega) (.slice none 0 0)).setCell (p := ⟨n0 + 1, 1, none⟩) (by show n0 ≤ n0 + 1; omega) (.slice none 0 0))
      have hse := (SnRet.zero (w := (w4.setCell ⟨n0 + 1, 0, none⟩ (.slice none 0 0)).setCell ⟨n0 + 1, 1, none⟩ (.slice none 0 0)) (lo := n0) (by simp [World.setCell]; omega))
      change bodyPost _ _ _ _ _ ((w4.setCell ⟨(n0 + 1), 0, none⟩ (.slice none 0 0)).setCell ⟨(n0 + 1), 1, none⟩ (.slice none 0 0))
      generalize (w4.setCell ⟨(n0 + 1), 0, none⟩ (.slice none 0 0)).setCell ⟨(n0 + 1), 1, none⟩ (.slice none 0 0) = W3 at hz hbe hse ⊢
      obtain ⟨z0, z1, _⟩ := blk2 hz
      refine bodyPost_ret (v := .tuple #[.agg #[(.slice none 0 0), (.slice none 0 0)], .int .i64 2]) ?_ rfl ?_
      · simp [results, Tryz.results14, Tryz.f14, go_sem, z0, z1]
      rw [hE.out, hS.out]
      exact ⟨none, 0, none, 0, n0, rfl, by rw [hn0]; exact hse, by rw [hn0]; exact hbe⟩
    | true =>
    by_cases hnl : num ≤ ln
    case pos =>
      have hE : Hid (takeE (im, l) num tm = 8) := (by rw [Hid, hTE.out, if_neg (by rw [hq1.out]; decide), if_pos (by omega)])
      have hS : Hid (takeS (im, l) num tm = zSns) := by rw [Hid, takeS, if_neg (by rw [hE.out]; decide)]
      obtain ⟨q0, q1, qf⟩ := blk2 hrz3
      go_wp2_with fail
      have hz := blk2_set hrz3 (.slice none 0 0) (.slice none 0 0)
      have hbe := ((hbw3.setCell (p := ⟨n0 + 1, 0, none⟩) (by show n0 ≤ n0 + 1; omega) (.slice none 0 0)).setCell (p := ⟨n0 + 1, 1, none⟩) (by show n0 ≤ n0 + 1; omega) (.slice none 0 0))
      have hse := (SnRet.zero (w := (w4.setCell ⟨n0 + 1, 0, none⟩ (.slice none 0 0)).setCell ⟨n0 + 1, 1, none⟩ (.slice none 0 0)) (lo := n0) (by simp [World.setCell]; omega))
      change bodyPost _ _ _ _ _ ((w4.setCell ⟨(n0 + 1), 0, none⟩ (.slice none 0 0)).setCell ⟨(n0 + 1), 1, none⟩ (.slice none 0 0))
      generalize (w4.setCell ⟨(n0 + 1), 0, none⟩ (.slice none 0 0)).setCell ⟨(n0 + 1), 1, none⟩ (.slice none 0 0) = W3 at hz hbe hse ⊢
      obtain ⟨z0, z1, _⟩ := blk2 hz
      refine bodyPost_ret (v := .tuple #[.agg #[(.slice none 0 0), (.slice none 0 0)], .int .i64 8]) ?_ rfl ?_
      · simp [results, Tryz.results14, Tryz.f14, go_sem, z0, z1]
      rw [hE.out, hS.out]
      exact ⟨none, 0, none, 0, n0, rfl, by rw [hn0]; exact hse, by rw [hn0]; exact hbe⟩
    have hnl' : decide (num ≤ ln) = false := decide_eq_false hnl
    have hnl2 : Hid (¬ num ≤ ln) := hnl
    obtain ⟨q2, hq2⟩ : ∃ q, Hid (inT tm = q) := ⟨_, rfl⟩
    have HI2 := Lib.hid (inT_any tm w4 q2 hq2.out)
    clear hnl
    go_wp2_with fail
    refine HI2.out.mono ?_
    rintro e w5 ⟨rfl, rfl⟩
    clear HI2
    cases q2 with
    | false =>
      have hE : Hid (takeE (im, l) num tm = 24) := (by rw [Hid, hTE.out, if_neg (by rw [hq1.out]; decide), if_neg (by have := hnl2.out; omega), if_pos (Or.inl hq2.out)])
      have hS : Hid (takeS (im, l) num tm = zSns) := by rw [Hid, takeS, if_neg (by rw [hE.out]; decide)]
      obtain ⟨q0, q1, qf⟩ := blk2 hrz3
      go_wp2_with fail
      have hz := blk2_set hrz3 (.slice none 0 0) (.slice none 0 0)
      have hbe := ((hbw3.setCell (p := ⟨n0 + 1, 0, none⟩) (by show n0 ≤ n0 + 1; omega) (.slice none 0 0)).setCell (p := ⟨n0 + 1, 1, none⟩) (by show n0 ≤ n0 + 1; omega) (.slice none 0 0))
      have hse := (SnRet.zero (w := (w5.setCell ⟨n0 + 1, 0, none⟩ (.slice none 0 0)).setCell ⟨n0 + 1, 1, none⟩ (.slice none 0 0)) (lo := n0) (by simp [World.setCell]; omega))
      change bodyPost _ _ _ _ _ ((w5.setCell ⟨(n0 + 1), 0, none⟩ (.slice none 0 0)).setCell ⟨(n0 + 1), 1, none⟩ (.slice none 0 0))
      generalize (w5.setCell ⟨(n0 + 1), 0, none⟩ (.slice none 0 0)).setCell ⟨(n0 + 1), 1, none⟩ (.slice none 0 0) = W3 at hz hbe hse ⊢
      obtain ⟨z0, z1, _⟩ := blk2 hz
      refine bodyPost_ret (v := .tuple #[.agg #[(.slice none 0 0), (.slice none 0 0)], .int .i64 24]) ?_ rfl ?_
      · simp [results, Tryz.results14, Tryz.f14, go_sem, z0, z1]
      rw [hE.out, hS.out]
      exact ⟨none, 0, none, 0, n0, rfl, by rw [hn0]; exact hse, by rw [hn0]; exact hbe⟩
    | true =>
    by_cases htl : tm < lt
    case pos =>
      have hE : Hid (takeE (im, l) num tm = 24) := (by rw [Hid, hTE.out, if_neg (by rw [hq1.out]; decide), if_neg (by have := hnl2.out; omega), if_pos (Or.inr (by omega))])
      have hS : Hid (takeS (im, l) num tm = zSns) := by rw [Hid, takeS, if_neg (by rw [hE.out]; decide)]
      obtain ⟨q0, q1, qf⟩ := blk2 hrz3
      go_wp2_with fail
      have hz := blk2_set hrz3 (.slice none 0 0) (.slice none 0 0)
      have hbe := ((hbw3.setCell (p := ⟨n0 + 1, 0, none⟩) (by show n0 ≤ n0 + 1; omega) (.slice none 0 0)).setCell (p := ⟨n0 + 1, 1, none⟩) (by show n0 ≤ n0 + 1; omega) (.slice none 0 0))
      have hse := (SnRet.zero (w := (w5.setCell ⟨n0 + 1, 0, none⟩ (.slice none 0 0)).setCell ⟨n0 + 1, 1, none⟩ (.slice none 0 0)) (lo := n0) (by simp [World.setCell]; omega))
      change bodyPost _ _ _ _ _ ((w5.setCell ⟨(n0 + 1), 0, none⟩ (.slice none 0 0)).setCell ⟨(n0 + 1), 1, none⟩ (.slice none 0 0))
      generalize (w5.setCell ⟨(n0 + 1), 0, none⟩ (.slice none 0 0)).setCell ⟨(n0 + 1), 1, none⟩ (.slice none 0 0) = W3 at hz hbe hse ⊢
      obtain ⟨z0, z1, _⟩ := blk2 hz
      refine bodyPost_ret (v := .tuple #[.agg #[(.slice none 0 0), (.slice none 0 0)], .int .i64 24]) ?_ rfl ?_
      · simp [results, Tryz.results14, Tryz.f14, go_sem, z0, z1]
      rw [hE.out, hS.out]
      exact ⟨none, 0, none, 0, n0, rfl, by rw [hn0]; exact hse, by rw [hn0]; exact hbe⟩
    have htl' : decide (tm < lt) = false := decide_eq_false htl
    have htl2 : Hid (¬ (inT tm = false ∨ tm < lt)) := by rw [Hid, hq2.out]; simp; omega
    clear htl
    obtain ⟨c0, c1⟩ := HCC.out w5 (Below.refl _ _)
    by_cases hfl : (1024 : Int) ≤ l.length
    case pos =>
      have hE : Hid (takeE (im, l) num tm = 11) := (by rw [Hid, hTE.out, if_neg (by rw [hq1.out]; decide), if_neg (by have := hnl2.out; omega), if_neg (by exact htl2.out), if_pos (by omega)])
      have hS : Hid (takeS (im, l) num tm = zSns) := by rw [Hid, takeS, if_neg (by rw [hE.out]; decide)]
      obtain ⟨q0, q1, qf⟩ := blk2 hrz3
      go_wp2_with fail
      have hz := blk2_set hrz3 (.slice none 0 0) (.slice none 0 0)
      have hbe := ((hbw3.setCell (p := ⟨n0 + 1, 0, none⟩) (by show n0 ≤ n0 + 1; omega) (.slice none 0 0)).setCell (p := ⟨n0 + 1, 1, none⟩) (by show n0 ≤ n0 + 1; omega) (.slice none 0 0))
      have hse := (SnRet.zero (w := (w5.setCell ⟨n0 + 1, 0, none⟩ (.slice none 0 0)).setCell ⟨n0 + 1, 1, none⟩ (.slice none 0 0)) (lo := n0) (by simp [World.setCell]; omega))
      change bodyPost _ _ _ _ _ ((w5.setCell ⟨(n0 + 1), 0, none⟩ (.slice none 0 0)).setCell ⟨(n0 + 1), 1, none⟩ (.slice none 0 0))
      generalize (w5.setCell ⟨(n0 + 1), 0, none⟩ (.slice none 0 0)).setCell ⟨(n0 + 1), 1, none⟩ (.slice none 0 0) = W3 at hz hbe hse ⊢
      obtain ⟨z0, z1, _⟩ := blk2 hz
      refine bodyPost_ret (v := .tuple #[.agg #[(.slice none 0 0), (.slice none 0 0)], .int .i64 11]) ?_ rfl ?_
      · simp [results, Tryz.results14, Tryz.f14, go_sem, z0, z1]
      rw [hE.out, hS.out]
      exact ⟨none, 0, none, 0, n0, rfl, by rw [hn0]; exact hse, by rw [hn0]; exact hbe⟩
    have hE : Hid (takeE (im, l) num tm = 0) := by rw [Hid, hTE.out, if_neg (by rw [hq1.out]; decide), if_neg (by have := hnl2.out; omega), if_neg (by exact htl2.out), if_neg (by omega)]
    have hS : Hid (takeS (im, l) num tm = (im, l ++ [(num, tm, [])])) := by rw [Hid, takeS, if_pos hE.out]
    have HCP := Lib.hid (copied36_any A A2 c c2 im.length l.length im l w5 rfl rfl ((H1.out w5 (by rw [hn0]; exact hbw3)).more (fun g hg => by have : g < w.heap.size := hg; show g < w5.heap.size; omega)) ((H2.out w5 (by rw [hn0]; exact hbw3)).more (fun g hg => by have : g < w.heap.size := hg; show g < w5.heap.size; omega)) HLM.out)
    clear hnl2 htl2 hq1 hq2 hTE
    go_wp2_with fail
    refine HCP.out.mono ?_
    rintro e w6 ⟨B, vc, D, dc, mid, rfl, hsn, hb6⟩
    clear HCP c0 c1 l0 l1 hnl' htl'
    go_upto_region 17 with (fail)
    obtain ⟨ob, hob⟩ : ∃ ob, w6.heap.size = ob := ⟨_, rfl⟩
    obtain ⟨w7, hw7⟩ : ∃ w7, w6.alloc (.cells #[.slice B im.length vc, .slice D l.length dc] 29) = w7 := ⟨_, rfl⟩
    rw [hw7, hob]
    have hb7 : Below w6.heap.size w6 w7 := by rw [← hw7]; exact ext_alloc (Below.refl _ _)
    have hr7 : w7.heap[ob]? = some (.cells #[.slice B im.length vc, .slice D l.length dc] 29 (0, 0)) := by rw [← hw7, ← hob]; exact heap_alloc_new _ _
    have hs7 : ob < w7.heap.size := (Array.getElem?_eq_some_iff.1 hr7).1
    have hz6 := hb6.size
    have hsn7 := hsn.below hb7
    obtain ⟨k1, k2, k3, k4, k5, k6⟩ := hsn
    have hO7 : Hid (OwnX (fun g => g = ob) encSnp w7 mid 45 (.slice D l.length dc) l) := (k6.var (X' := fun g => g = ob) (fun g hg => Or.inr (by omega))).below hb7
    have hO8 := Lib.hid (hO7.out.alloc (.cells #[.int .i64 num, .int .i64 tm, .slice none 0 0] 45))
    have hO8o := Lib.hid hO8.out.1
    have hlo := Lib.hid k6.lt
    have hHI := Lib.hid k5
    have HRD : Hid (encSnp.rd (w7.alloc (.cells #[.int .i64 num, .int .i64 tm, .slice none 0 0] 45)) (fun g => Nw mid (w7.alloc (.cells #[.int .i64 num, .int .i64 tm, .slice none 0 0] 45)).heap.size g ∧ ¬ (fun g => g = ob) g ∧ (Value.slice D l.length dc).ownBlock ≠ some g) [.int .i64 num, .int .i64 tm, .slice none 0 0] (num, tm, [])) := snp_mk (x := (num, tm, [])) ⟨hnum.out.1, hnum.out.2⟩ ⟨htm.out.1, htm.out.2⟩ (by simp) (by simp) SlAt.nil_
    have hrz7 : w7.heap[n0 + 1]? = some (.cells #[.slice none 0 0, .slice none 0 0] 29 (0, 0)) := (hb7.block _ (by omega)).trans ((hb6.block _ (by omega)).trans hrz3)
    have hbw7 : Below n0 w w7 := (hbw3.trans (hb6.mono (by omega))).trans (hb7.mono (by omega))
    obtain ⟨o0, o1, _⟩ := blk2 hr7
    have hz7 := hb7.size
    clear k5 k6 hw7 hsn7
    go_wp2_with (at_builtin; refine Hid.out ?_)
    change wpList _ _ _ _ _ _
    refine wpList_app1 (E := encSnp) tySnps rfl _ _ rfl rfl hO8o.out (num, tm, []) [.int .i64 num, .int .i64 tm, .slice none 0 0] rfl HRD.out (heap_alloc_new _ _) (fun _ h => h.1.2) (by simp; omega) (by unfold maxLen; omega) (by omega) ?_
    intro A9 c9 w9 hown9 hg9 hat9
    have hz9 := hg9.size
    rw [World.size_alloc] at hz9
    have hkeep9 : ∀ g, g < w7.heap.size → (Value.slice D l.length dc).ownBlock ≠ some g → w9.heap[g]? = w7.heap[g]? := fun g hg hne => (hg9.block g (by rw [World.size_alloc]; omega) (fun e => hne e.symm)).trans (Below.heap_alloc _ _ _ hg)
    have hro9 := (hkeep9 ob hs7 (fun e => by have := (hlo.out ob e).2; omega)).trans hr7
    have hrz9 := (hkeep9 (n0 + 1) (by omega) (fun e => by have := (hlo.out _ e).1; omega)).trans hrz7
    have hO9 : Hid (OwnX (fun g => g = ob) encSnp (w9.setCell ⟨ob, 1, none⟩ (.slice A9 (l.length + 1) c9)) mid 45 (.slice A9 (l.length + 1) c9) (l ++ [(num, tm, [])])) := (hO8.out.app hown9 hg9 hat9 (fun g hg => by rw [hg]; simp; omega)).set (p := ⟨ob, 1, none⟩) rfl _
    have hbw9 : Below n0 w (w9.setCell ⟨ob, 1, none⟩ (.slice A9 (l.length + 1) c9)) := ((hbw7.alloc (by omega) (.cells #[.int .i64 num, .int .i64 tm, .slice none 0 0] 45)).grown hg9 (by simp; omega) (fun g h => by have := (hlo.out g h).1; omega)).setCell (p := ⟨ob, 1, none⟩) (by show n0 ≤ ob; omega) _
    have hI9 : Hid (SlAt (encSl encSec) (w9.setCell ⟨ob, 1, none⟩ (.slice A9 (l.length + 1) c9)) (Nw w5.heap.size mid) B im) := hHI.out.blk (fun g hg => (heap_setCell_other _ _ _ _ (by have := hg.2; show g ≠ ob; omega)).trans ((hkeep9 g (by have := hg.2; omega) (fun e => by have := (hlo.out g e).1; have := hg.2; omega)).trans (hb7.block g (by have := hg.2; omega))))
    have hro10 := blk2_1 hro9 (.slice A9 (l.length + 1) c9)
    have hrz10 := (heap_setCell_other w9 ⟨ob, 1, none⟩ (n0 + 1) (.slice A9 (l.length + 1) c9) (by show n0 + 1 ≠ ob; omega)).trans hrz9
    have hz10 : mid ≤ (w9.setCell ⟨ob, 1, none⟩ (.slice A9 (l.length + 1) c9)).heap.size := by simp [World.setCell]; omega
    obtain ⟨_, o1, of⟩ := blk2 hro9
    clear hown9 hg9 hat9 hkeep9 HRD
    go_upto_region 18 with (fail)
    generalize w9.setCell ⟨ob, 1, none⟩ (.slice A9 (l.length + 1) c9) = w10 at hO9 hbw9 hI9 hro10 hrz10 hz10 ⊢
    clear o0 o1 of hro9 hrz9
    obtain ⟨o0, o1, _⟩ := blk2 hro10
    obtain ⟨q0, q1, qf⟩ := blk2 hrz10
    go_wp2_with fail
    have hz := blk2_set hrz10 (.slice B im.length vc) (.slice A9 (l.length + 1) c9)
    have hbe := ((hbw9.setCell (p := ⟨n0 + 1, 0, none⟩) (by show n0 ≤ n0 + 1; omega) (.slice B im.length vc)).setCell (p := ⟨n0 + 1, 1, none⟩) (by show n0 ≤ n0 + 1; omega) (.slice A9 (l.length + 1) c9))
    have hse := (((show SnRet im (l ++ [(num, tm, [])]) B vc A9 c9 mid w5.heap.size w10 from ⟨k1, k2, k3, hz10, hI9.out, by have := hO9.out.var (X' := fun _ => False) (fun g hg => hg.elim); simpa using this⟩).set (p := ⟨n0 + 1, 0, none⟩) (by show n0 + 1 < w5.heap.size; omega) (.slice B im.length vc)).set (p := ⟨n0 + 1, 1, none⟩) (by show n0 + 1 < w5.heap.size; omega) (.slice A9 (l.length + 1) c9))
    change bodyPost _ _ _ _ _ ((w10.setCell ⟨(n0 + 1), 0, none⟩ (.slice B im.length vc)).setCell ⟨(n0 + 1), 1, none⟩ (.slice A9 (l.length + 1) c9))
    generalize (w10.setCell ⟨(n0 + 1), 0, none⟩ (.slice B im.length vc)).setCell ⟨(n0 + 1), 1, none⟩ (.slice A9 (l.length + 1) c9) = W3 at hz hbe hse ⊢
    obtain ⟨z0, z1, _⟩ := blk2 hz
    refine bodyPost_ret (v := .tuple #[.agg #[(.slice B im.length vc), (.slice A9 (l.length + 1) c9)], .int .i64 0]) ?_ rfl ?_
    · simp [results, Tryz.results14, Tryz.f14, go_sem, z0, z1]
    rw [hE.out, hS.out]
    exact ⟨B, vc, A9, c9, mid, by simp, hse.low (by omega), by rw [hn0]; exact hbe⟩
end Go.Proofs.YtnkmklnlaepdeaaGreat
