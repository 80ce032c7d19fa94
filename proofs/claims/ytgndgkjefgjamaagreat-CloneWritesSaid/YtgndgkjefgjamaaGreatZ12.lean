/-
  Clones as results; clone.New, Create: the walks.; clone.find: the walk.; Owned lists of sectors: stores; append of all elements at a step of a region that draws its order. No program in sight.; snapshot.Revert; results read as data.; A sector stored; the reference's Fits, its copy of an image that it owns, its Apply.; clone.Image: the walk.
-/
import Derived.BigQuiet
import Derived.BigRegion
import Derived.Test.YtgndgkjefgjamaaGreatZ01
import Derived.Test.YtgndgkjefgjamaaGreatZ02
import Derived.Test.YtgndgkjefgjamaaGreatZ03
import Derived.Test.YtgndgkjefgjamaaGreatZ04
import Derived.Test.YtgndgkjefgjamaaGreatZ05
import Derived.Test.YtgndgkjefgjamaaGreatZ06
import Derived.Test.YtgndgkjefgjamaaGreatZ07
import Derived.Test.YtgndgkjefgjamaaGreatZ08
import Derived.Test.YtgndgkjefgjamaaGreatZ09
import Derived.Test.YtgndgkjefgjamaaGreatZ10
import Derived.Test.YtgndgkjefgjamaaGreatZ11
set_option linter.unusedVariables false
set_option linter.unusedSimpArgs false
set_option linter.unusedSectionVars false
set_option linter.unnecessarySimpa false
namespace Go.Proofs.YtgndgkjefgjamaaGreat
open Go.RowKit Go.Shelf
attribute [local go_sem] Oper.semAt_some

/-- clones in memory -/
structure ClAt (x : Cls) (A : Option Addr) (c : Nat) (D : Option Addr) (d : Nat) (G : Option Addr) (g : Nat) (S : Nat → Prop) (W : World) : Prop where
  im : x.1.1.length ≤ c ∧ c ≤ maxLen ∧ SlAt (encSl encSec) W S A x.1.1
  sn : x.1.2.length ≤ d ∧ d ≤ maxLen ∧ SlAt encSnp W S D x.1.2
  cl : x.2.length ≤ g ∧ g ≤ maxLen ∧ SlAt encCln W S G x.2
theorem ClAt.keep {x : Cls} {A D G : Option Addr} {c d g : Nat} {S S' : Nat → Prop} {W W' : World} (h : ClAt x A c D d G g S W) (hk : ∀ b, S b → W'.heap[b]? = W.heap[b]?) (hS : ∀ b, S b → S' b) : ClAt x A c D d G g S' W' :=
  ⟨⟨h.im.1, h.im.2.1, (h.im.2.2.blk hk).more hS⟩, ⟨h.sn.1, h.sn.2.1, (h.sn.2.2.blk hk).more hS⟩, ⟨h.cl.1, h.cl.2.1, (h.cl.2.2.blk hk).more hS⟩⟩
theorem ClAt.zero {S : Nat → Prop} {W : World} : ClAt zCls none 0 none 0 none 0 S W := ⟨⟨by simp [zCls, zSns], by simp, SlAt.nil_⟩, ⟨by simp [zCls, zSns], by simp, SlAt.nil_⟩, ⟨by simp [zCls], by simp, SlAt.nil_⟩⟩
theorem ClRet.at_ {s : Sns} {l : List Cln} {A D G : Option Addr} {c d g m1 m2 lo : Nat} {w : World} (h : ClRet s l A c D d G g m1 m2 lo w) : ClAt (s, l) A c D d G g (Nw lo w.heap.size) w := by
  obtain ⟨_, a, b, c⟩ := h.cl.parts
  have := h.le
  exact ⟨⟨h.im.1, h.im.2.1, h.im.2.2.more (fun g hg => ⟨hg.1, by have := hg.2; omega⟩)⟩, ⟨h.sn.1, h.sn.2.1, h.sn.2.2.more (fun g hg => ⟨by have := hg.1; omega, by have := hg.2; omega⟩)⟩, ⟨a, b, c.more (fun g hg => ⟨by have := hg.1.1; omega, hg.1.2⟩)⟩⟩
/-- clones and the number of an error -/
def RetCl (x : Cls) (n : Int) (w : World) (e : Ending) (w' : World) : Prop :=
  ∃ A c D d G g, e = .returned (.tuple #[.agg #[.slice A x.1.1.length c, .slice D x.1.2.length d, .slice G x.2.length g], .int .i64 n]) ∧ ClAt x A c D d G g (Nw w.heap.size w'.heap.size) w' ∧ Below w.heap.size w w'
theorem cl_end {w W : World} {b : Nat} {T : TypeId} {c0 c1 c2 : Value} (hrow : W.heap[b]? = some (.cells #[c0, c1, c2] T (0, 0))) (hb : w.heap.size ≤ b) (hB : Below w.heap.size w W) {x : Cls} {A D G : Option Addr} {c d g : Nat}
    (h : ClAt x A c D d G g (fun q => w.heap.size ≤ q ∧ q < W.heap.size ∧ q ≠ b) W) (n : Int) :
    (sw3 W b (.slice A x.1.1.length c) (.slice D x.1.2.length d) (.slice G x.2.length g)).heap[b]? = some (.cells #[.slice A x.1.1.length c, .slice D x.1.2.length d, .slice G x.2.length g] T (0, 0)) ∧
    RetCl x n w (.returned (.tuple #[.agg #[.slice A x.1.1.length c, .slice D x.1.2.length d, .slice G x.2.length g], .int .i64 n])) (sw3 W b (.slice A x.1.1.length c) (.slice D x.1.2.length d) (.slice G x.2.length g)) :=
  ⟨sw3_row hrow _ _ _, A, c, D, d, G, g, rfl, h.keep (fun q hq => sw3_other hq.2.2 _ _ _) (fun q hq => ⟨hq.1, by rw [sw3_sz]; exact hq.2.1⟩), sw3_below hB hb _ _ _⟩
set_option maxHeartbeats 2000000 in
set_option maxRecDepth 100000 in
theorem clNew_any (A A2 : Option Addr) (c c2 n m : Nat) (im : Img) (l : List Snp) (w : World) (hn : im.length = n) (hm : l.length = m) (h1 : SlAt (encSl encSec) w (Bl w.heap.size) A im) (h2 : SlAt encSnp w (Bl w.heap.size) A2 l) (hL : SnLim im l) :
    Calls Tryz.prog 14 #[.agg #[.slice A n c, .slice A2 m c2]] w (RetCl (clNew (im, l)) (snE (im, l)) w) := by
  subst hn hm
  obtain ⟨n0, hn0⟩ : ∃ n0, w.heap.size = n0 := ⟨_, rfl⟩
  obtain ⟨W0, hW0⟩ : ∃ W0, (w.alloc (.cells #[.slice A im.length c, .slice A2 l.length c2] 26)).alloc (.cells #[.slice none 0 0, .slice none 0 0, .slice none 0 0] 29) = W0 := ⟨_, rfl⟩
  have hB0 : Below n0 w W0 := by rw [← hW0, ← hn0]; exact ext_alloc (ext_alloc (Below.refl _ _))
  have hr0 : W0.heap[n0]? = some (.cells #[.slice A im.length c, .slice A2 l.length c2] 26 (0, 0)) := by
    rw [← hW0, ← hn0]; exact (Below.heap_alloc _ _ _ (by simp)).trans (heap_alloc_new _ _)
  have hr1 : W0.heap[n0 + 1]? = some (.cells #[.slice none 0 0, .slice none 0 0, .slice none 0 0] 29 (0, 0)) := by
    rw [← hW0, ← hn0]; exact heap_new2 _ _ _
  obtain ⟨n2, hn2⟩ : ∃ n2, W0.heap.size = n2 := ⟨_, rfl⟩
  have hn02 : n0 + 1 < n2 := by rw [← hn2]; exact (Array.getElem?_eq_some_iff.1 hr1).1
  have up : ∀ {α : Type} {E : Enc α} {A : Option Addr} {l : List α}, SlAt E w (Bl w.heap.size) A l → ∀ W, Below n2 W0 W → SlAt E W (Bl W.heap.size) A l := fun h W hb => by
    rw [hn0] at h
    exact (h.blk (fun g hg => (hb.block g (by have : g < n0 := hg; omega)).trans (hB0.block g hg))).more (fun g hg => by have : g < n0 := hg; have := hb.size; show g < W.heap.size; omega)
  have H1 := Lib.hid (up h1)
  have H2 := Lib.hid (up h2)
  obtain ⟨s0, hs0⟩ : ∃ s0, snE (im, l) = s0 := ⟨_, rfl⟩
  have hl1 := hL.ims
  have hl2 := hL.its
  have HSC := Lib.hid (snCheck_any A A2 c c2 im.length l.length im l s0 W0 rfl rfl hs0 (H1.out W0 (Below.refl _ _)) (H2.out W0 (Below.refl _ _)) hl1 (by omega))
  have HOW := Lib.hid (fun W (hb : Below n2 W0 W) => own37_any A A2 none c c2 0 im.length l.length 0 im l [] W rfl rfl rfl (H1.out W hb) (H2.out W hb) SlAt.nil_ ⟨hL, by simp, fun x hx => by cases hx⟩)
  have HS0 := Lib.hid hs0
  have HN0 := Lib.hid hn0
  have HN2 := Lib.hid hn2
  have HB0 : Hid (Below w.heap.size w W0) := by rw [hn0]; exact hB0
  have hN0 : n0 ≤ w.heap.size ∧ w.heap.size ≤ n0 := by omega
  rw [hs0]
  obtain ⟨p0, p1, _⟩ := blk2 hr0
  clear h1 h2 up hB0 hL hs0
  go_enter Tryz.func14, Tryz.ntmps14
  go_wp2_with fail
  refine HSC.out.mono ?_
  rintro e w1 ⟨rfl, hb1⟩
  rw [HN2.out] at hb1
  have hr11 := (hb1.block (n0 + 1) (by omega)).trans hr1
  have hbw1 : Below w.heap.size w w1 := HB0.out.trans (hb1.mono (by omega))
  clear p0 p1 HSC hn2 hn0 hW0
  by_cases hx0 : s0 = 0
  case neg =>
    have hx0' : (s0 != 0) = true := by simp [hx0]
    have HT : Hid (clNew (im, l) = zCls) := by rw [Hid, clNew, HS0.out, if_neg hx0]
    clear hx0
    obtain ⟨v0, v1, v2, vf⟩ := blk3 hr11
    go_wp2_with fail
    have hend := cl_end (w := w) (x := zCls) (A := none) (c := 0) (D := none) (d := 0) (G := none) (g := 0) hr11 (by omega) hbw1 ClAt.zero s0
    obtain ⟨hz, hret⟩ := hend
    change bodyPost _ _ _ _ _ (sw3 w1 (n0 + 1) (.slice none (zCls).1.1.length 0) (.slice none (zCls).1.2.length 0) (.slice none (zCls).2.length 0))
    generalize sw3 w1 (n0 + 1) (.slice none (zCls).1.1.length 0) (.slice none (zCls).1.2.length 0) (.slice none (zCls).2.length 0) = W3 at hz hret ⊢
    obtain ⟨z0, z1, z2, _⟩ := blk3 hz
    refine bodyPost_ret (v := .tuple #[.agg #[.slice none (zCls).1.1.length 0, .slice none (zCls).1.2.length 0, .slice none (zCls).2.length 0], .int .i64 s0]) ?_ rfl ?_
    · simp [results, Tryz.results14, Tryz.f14, go_sem, z0, z1, z2, zCls, zSns]
    rw [HT.out]; exact hret
  have hx0' : (s0 != 0) = false := by simp [hx0]
  have HT : Hid (clNew (im, l) = ((im, l), [])) := by rw [Hid, clNew, HS0.out, if_pos hx0]
  subst hx0
  obtain ⟨p0, p1, _⟩ := blk2 ((hb1.block n0 (by omega)).trans hr0)
  have HO := Lib.hid (HOW.out w1 hb1)
  go_wp2_with fail
  refine HO.out.mono ?_
  rintro e w2 ⟨B, vc, D, dc, G, gc, m1, m2, rfl, hcr, hb2⟩
  have hca := hcr.at_
  have hz1 := hb1.size
  have hN2 : n2 ≤ W0.heap.size := by have := HN2.out; omega
  have hr12 := (hb2.block (n0 + 1) (by omega)).trans hr11
  have hbw2 : Below w.heap.size w w2 := hbw1.trans (hb2.mono hbw1.size)
  have HCA := Lib.hid (hca.keep (S' := fun q => w.heap.size ≤ q ∧ q < w2.heap.size ∧ q ≠ n0 + 1) (fun _ _ => rfl) (fun q hq => ⟨by have := hq.1; omega, hq.2, by have := hq.1; omega⟩))
  clear p0 p1 HO hcr hca
  obtain ⟨v0, v1, v2, vf⟩ := blk3 hr12
  go_wp2_with fail
  have hend := cl_end (w := w) (x := (((im, l), []) : Cls)) (A := B) (c := vc) (D := D) (d := dc) (G := G) (g := gc) hr12 (by omega) hbw2 HCA.out 0
  obtain ⟨hz, hret⟩ := hend
  change bodyPost _ _ _ _ _ (sw3 w2 (n0 + 1) (.slice B ((((im, l), []) : Cls)).1.1.length vc) (.slice D ((((im, l), []) : Cls)).1.2.length dc) (.slice G ((((im, l), []) : Cls)).2.length gc))
  generalize sw3 w2 (n0 + 1) (.slice B ((((im, l), []) : Cls)).1.1.length vc) (.slice D ((((im, l), []) : Cls)).1.2.length dc) (.slice G ((((im, l), []) : Cls)).2.length gc) = W3 at hz hret ⊢
  obtain ⟨z0, z1, z2, _⟩ := blk3 hz
  refine bodyPost_ret (v := .tuple #[.agg #[.slice B ((((im, l), []) : Cls)).1.1.length vc, .slice D ((((im, l), []) : Cls)).1.2.length dc, .slice G ((((im, l), []) : Cls)).2.length gc], .int .i64 0]) ?_ rfl ?_
  · simp [results, Tryz.results14, Tryz.f14, go_sem, z0, z1, z2, zCls, zSns]
  rw [HT.out]; exact hret
theorem OwnX.head {α : Type} {X : Nat → Prop} {E : Enc α} {w : World} {lo n c : Nat} {e : TypeId} {A : Option Addr} {l : List α} (h : OwnX X E w lo e (.slice A n c) l) (hl : 0 < l.length) : ∃ g, A = some ⟨g, 0, none⟩ ∧ lo ≤ g ∧ g < w.heap.size ∧ ¬ X g := by
  have hlt := h.lt
  have hx := h.2
  obtain ⟨⟨css, ⟨_, h1⟩, _, _⟩, _⟩ := h
  rcases h1 with ⟨_, e2⟩ | ⟨g, cap, cur, e1, _⟩
  · omega
  · simp only [Value.slice.injEq] at e1
    obtain ⟨rfl, _, _⟩ := e1
    exact ⟨g, rfl, (hlt g rfl).1, (hlt g rfl).2, hx g rfl⟩
set_option maxHeartbeats 4000000 in
set_option maxRecDepth 100000 in
theorem clCreate_any (A A2 A3 : Option Addr) (c c2 c3 n m p : Nat) (im : Img) (l : List Snp) (cl : List Cln) (nm : ByteArray) (num : Int) (w : World) (hn : im.length = n) (hm : l.length = m) (hp : cl.length = p) (h1 : SlAt (encSl encSec) w (Bl w.heap.size) A im) (h2 : SlAt encSnp w (Bl w.heap.size) A2 l) (h3 : SlAt encCln w (Bl w.heap.size) A3 cl) (hL : ClLim (im, l) cl) (hnm : nm.size ≤ maxLen) (hI : I64 num) :
    Calls Tryz.prog 12 #[.agg #[.slice A n c, .slice A2 m c2, .slice A3 p c3], .string nm, .int .i64 num] w (RetCl (creS ((im, l), cl) nm num) (creE ((im, l), cl) nm num) w) := by
  subst hn hm hp
  obtain ⟨n0, hn0⟩ : ∃ n0, w.heap.size = n0 := ⟨_, rfl⟩
  obtain ⟨W0, hW0⟩ : ∃ W0, (w.alloc (.cells #[.slice A im.length c, .slice A2 l.length c2, .slice A3 cl.length c3] 29)).alloc (.cells #[.slice none 0 0, .slice none 0 0, .slice none 0 0] 29) = W0 := ⟨_, rfl⟩
  have hB0 : Below n0 w W0 := by rw [← hW0, ← hn0]; repeat (first | exact Below.refl _ _ | refine ext_alloc ?_)
  have hr0 : W0.heap[n0]? = some (.cells #[.slice A im.length c, .slice A2 l.length c2, .slice A3 cl.length c3] 29 (0, 0)) := by rw [← hW0, ← hn0]; exact (Below.heap_alloc _ _ _ (by simp)).trans (heap_alloc_new _ _)
  have hr1 : W0.heap[n0 + 1]? = some (.cells #[.slice none 0 0, .slice none 0 0, .slice none 0 0] 29 (0, 0)) := by rw [← hW0, ← hn0]; exact heap_new2 _ _ _
  obtain ⟨n2, hn2⟩ : ∃ n2, W0.heap.size = n2 := ⟨_, rfl⟩
  have hn02 : n0 + 1 < n2 := by rw [← hn2]; exact (Array.getElem?_eq_some_iff.1 hr1).1
  have up : ∀ {α : Type} {E : Enc α} {A : Option Addr} {l : List α}, SlAt E w (Bl w.heap.size) A l → ∀ W, Below n2 W0 W → SlAt E W (Bl W.heap.size) A l := fun h W hb => by
    rw [hn0] at h
    exact (h.blk (fun g hg => (hb.block g (by have : g < n0 := hg; omega)).trans (hB0.block g hg))).more (fun g hg => by have : g < n0 := hg; have := hb.size; show g < W.heap.size; omega)
  have H1 := Lib.hid (up h1)
  have H2 := Lib.hid (up h2)
  have H3 := Lib.hid (up h3)
  have HC : Hid (∀ W, Below n2 W0 W → W.cell? ⟨n0, 0, none⟩ = some (.slice A im.length c) ∧ W.cell? ⟨n0, 1, none⟩ = some (.slice A2 l.length c2) ∧ W.cell? ⟨n0, 2, none⟩ = some (.slice A3 cl.length c3)) := fun W hb => by
    obtain ⟨a, b, d, _⟩ := blk3 ((hb.block _ (by omega)).trans hr0)
    exact ⟨a, b, d⟩
  have HRR : Hid (∀ W, Below n2 W0 W → W.heap[n0 + 1]? = some (.cells #[.slice none 0 0, .slice none 0 0, .slice none 0 0] 29 (0, 0))) := fun W hb => (hb.block _ (by omega)).trans hr1
  have HROW0 : Hid (∀ W, Below n2 W0 W → W.heap[n0]? = some (.cells #[.slice A im.length c, .slice A2 l.length c2, .slice A3 cl.length c3] 29 (0, 0))) := fun W hb => (hb.block _ (by omega)).trans hr0
  have HBW : Hid (∀ W, Below n2 W0 W → Below w.heap.size w W) := fun W hb => by rw [hn0]; exact hB0.trans (hb.mono (by omega))
  have HN0 := Lib.hid hn0
  have HN2 := Lib.hid hn2
  have hN0 : n0 ≤ w.heap.size ∧ w.heap.size ≤ n0 := by omega
  have hl1 := hL.sn.ims
  have hl2 := hL.sn.its
  have hl3 := hL.its
  have HLM := Lib.hid hL
  simp only at hl1 hl2
  obtain ⟨s0, hs0⟩ : ∃ s0, clE ((im, l), cl) = s0 := ⟨_, rfl⟩
  have HCK := Lib.hid (fun W (hb : Below n2 W0 W) => clCheck_any A A2 A3 c c2 c3 im.length l.length cl.length im l cl s0 W rfl rfl rfl hs0 (H1.out W hb) (H2.out W hb) (H3.out W hb) hl1 (by omega) (by omega))
  have HOW := Lib.hid (fun W (hb : Below n2 W0 W) => own37_any A A2 A3 c c2 c3 im.length l.length cl.length im l cl W rfl rfl rfl (H1.out W hb) (H2.out W hb) (H3.out W hb) HLM.out)
  have HS0 := Lib.hid hs0
  have hB00 := Below.refl n2 W0
  obtain ⟨p0, p1, p2⟩ := HC.out W0 hB00
  clear h1 h2 h3 up hB0 hL hr0 hr1 hs0
  have HCE : Hid (creE ((im, l), cl) nm num = if s0 ≠ 0 then s0 else if nameB nm = false then 23 else if cl.any (isN nm) = true then 8 else if tkn l num = false then 7 else if 16 ≤ cl.length then 6 else 0) := by rw [Hid, creE, HS0.out]
  have HER : Hid (∀ q : Int, creE ((im, l), cl) nm num = q → q ≠ 0 → creS ((im, l), cl) nm num = zCls) := fun q h hq => by rw [creS, if_neg (by rw [h]; exact hq)]
  obtain ⟨q1, hq1⟩ : ∃ q, nameB nm = q := ⟨_, rfl⟩
  obtain ⟨iv, hiv⟩ : ∃ i, idxAt (isN nm) cl = i := ⟨_, rfl⟩
  obtain ⟨q3, hq3⟩ : ∃ q, tkn l num = q := ⟨_, rfl⟩
  have hia := idxAt_any (P := isN nm) (l := cl)
  rw [hiv] at hia
  have HIN := Lib.hid (fun W => isName_any nm W q1 hq1 hnm)
  have HIX := Lib.hid (fun W (hb : Below n2 W0 W) => index37_any A3 c3 cl.length cl nm W rfl (H3.out W hb) (by omega) iv hiv)
  have HTK := Lib.hid (fun W (hb : Below n2 W0 W) => taken37_any A A2 c c2 im.length l.length l num W rfl (H2.out W hb) (by omega) q3 hq3)
  rw [hq1, hq3, ← hia] at HCE
  have HCK0 := Lib.hid (HCK.out W0 hB00)
  clear hq1 hiv hq3 hia
  go_enter Tryz.func12, Tryz.ntmps12
  go_wp2_with fail
  refine HCK0.out.mono ?_
  rintro e w1 ⟨rfl, hb1⟩
  rw [HN2.out] at hb1
  clear p0 p1 p2 HCK0 hn2 hn0 hW0
  have hr1 := HRR.out w1 hb1
  by_cases hx0 : s0 = 0
  case neg =>
    have hx0' : (s0 != 0) = true := by simp [hx0]
    have HE : Hid (creE ((im, l), cl) nm num = s0) := by rw [Hid, HCE.out, if_pos hx0]
    have HT := Lib.hid (HER.out s0 HE.out hx0)
    clear hx0
    obtain ⟨v0, v1, v2, vf⟩ := blk3 hr1
    go_wp2_with fail
    have hend := cl_end (w := w) (x := zCls) (A := none) (c := 0) (D := none) (d := 0) (G := none) (g := 0) hr1 (by omega) (HBW.out w1 hb1) ClAt.zero s0
    obtain ⟨hz, hret⟩ := hend
    change bodyPost _ _ _ _ _ (sw3 w1 (n0 + 1) (.slice none (zCls).1.1.length 0) (.slice none (zCls).1.2.length 0) (.slice none (zCls).2.length 0))
    generalize sw3 w1 (n0 + 1) (.slice none (zCls).1.1.length 0) (.slice none (zCls).1.2.length 0) (.slice none (zCls).2.length 0) = W3 at hz hret ⊢
    obtain ⟨z0, z1, z2, _⟩ := blk3 hz
    refine bodyPost_ret (v := .tuple #[.agg #[.slice none (zCls).1.1.length 0, .slice none (zCls).1.2.length 0, .slice none (zCls).2.length 0], .int .i64 s0]) ?_ rfl ?_
    · simp [results, Tryz.results12, Tryz.f12, go_sem, z0, z1, z2, zCls, zSns]
    rw [HT.out, HE.out]; exact hret
  have hx0' : (s0 != 0) = false := by simp [hx0]
  rw [if_neg (by simp [hx0])] at HCE
  subst hx0
  cases q1 with
  | false =>
    have HE : Hid (creE ((im, l), cl) nm num = 23) := by rw [Hid, HCE.out, if_pos rfl]
    have HT := Lib.hid (HER.out 23 HE.out (by decide))
    go_wp2_with fail
    refine (HIN.out w1).mono ?_
    rintro e w2 ⟨rfl, hb2⟩
    have hbb2 : Below n2 W0 w2 := hb1.trans (hb2.mono (by have := hb1.size; have := HN2.out; omega))
    have hr2 := HRR.out w2 hbb2
    obtain ⟨v0, v1, v2, vf⟩ := blk3 hr2
    go_wp2_with fail
    have hend := cl_end (w := w) (x := zCls) (A := none) (c := 0) (D := none) (d := 0) (G := none) (g := 0) hr2 (by omega) (HBW.out w2 hbb2) ClAt.zero 23
    obtain ⟨hz, hret⟩ := hend
    change bodyPost _ _ _ _ _ (sw3 w2 (n0 + 1) (.slice none (zCls).1.1.length 0) (.slice none (zCls).1.2.length 0) (.slice none (zCls).2.length 0))
    generalize sw3 w2 (n0 + 1) (.slice none (zCls).1.1.length 0) (.slice none (zCls).1.2.length 0) (.slice none (zCls).2.length 0) = W3 at hz hret ⊢
    obtain ⟨z0, z1, z2, _⟩ := blk3 hz
    refine bodyPost_ret (v := .tuple #[.agg #[.slice none (zCls).1.1.length 0, .slice none (zCls).1.2.length 0, .slice none (zCls).2.length 0], .int .i64 23]) ?_ rfl ?_
    · simp [results, Tryz.results12, Tryz.f12, go_sem, z0, z1, z2, zCls, zSns]
    rw [HT.out, HE.out]; exact hret
  | true =>
  rw [if_neg (by decide)] at HCE
  go_wp2_with fail
  refine (HIN.out w1).mono ?_
  rintro e w2 ⟨rfl, hb2⟩
  have hbb2 : Below n2 W0 w2 := hb1.trans (hb2.mono (by have := hb1.size; have := HN2.out; omega))
  obtain ⟨p0, p1, p2⟩ := HC.out w2 hbb2
  clear HIN
  go_wp2_with fail
  refine (HIX.out w2 hbb2).mono ?_
  rintro e w3 ⟨rfl, hb3⟩
  have hbb3 : Below n2 W0 w3 := hbb2.trans (hb3.mono (by have := hbb2.size; have := HN2.out; omega))
  clear p0 p1 p2 HIX
  by_cases hiv0 : 0 ≤ iv
  case pos =>
    have HE : Hid (creE ((im, l), cl) nm num = 8) := by rw [Hid, HCE.out, if_pos (decide_eq_true hiv0)]
    have HT := Lib.hid (HER.out 8 HE.out (by decide))
    have hr3 := HRR.out w3 hbb3
    obtain ⟨v0, v1, v2, vf⟩ := blk3 hr3
    go_wp2_with fail
    have hend := cl_end (w := w) (x := zCls) (A := none) (c := 0) (D := none) (d := 0) (G := none) (g := 0) hr3 (by omega) (HBW.out w3 hbb3) ClAt.zero 8
    obtain ⟨hz, hret⟩ := hend
    change bodyPost _ _ _ _ _ (sw3 w3 (n0 + 1) (.slice none (zCls).1.1.length 0) (.slice none (zCls).1.2.length 0) (.slice none (zCls).2.length 0))
    generalize sw3 w3 (n0 + 1) (.slice none (zCls).1.1.length 0) (.slice none (zCls).1.2.length 0) (.slice none (zCls).2.length 0) = W3 at hz hret ⊢
    obtain ⟨z0, z1, z2, _⟩ := blk3 hz
    refine bodyPost_ret (v := .tuple #[.agg #[.slice none (zCls).1.1.length 0, .slice none (zCls).1.2.length 0, .slice none (zCls).2.length 0], .int .i64 8]) ?_ rfl ?_
    · simp [results, Tryz.results12, Tryz.f12, go_sem, z0, z1, z2, zCls, zSns]
    rw [HT.out, HE.out]; exact hret
  rw [if_neg (by simp; omega)] at HCE
  have hivn : decide (0 ≤ iv) = false := decide_eq_false hiv0
  obtain ⟨p0, p1, p2⟩ := HC.out w3 hbb3
  go_wp2_with fail
  refine (HTK.out w3 hbb3).mono ?_
  rintro e w4 ⟨rfl, hb4⟩
  have hbb4 : Below n2 W0 w4 := hbb3.trans (hb4.mono (by have := hbb3.size; have := HN2.out; omega))
  clear p0 p1 p2 HTK
  have hr4 := HRR.out w4 hbb4
  cases q3 with
  | false =>
    have HE : Hid (creE ((im, l), cl) nm num = 7) := by rw [Hid, HCE.out, if_pos rfl]
    have HT := Lib.hid (HER.out 7 HE.out (by decide))
    obtain ⟨v0, v1, v2, vf⟩ := blk3 hr4
    go_wp2_with fail
    have hend := cl_end (w := w) (x := zCls) (A := none) (c := 0) (D := none) (d := 0) (G := none) (g := 0) hr4 (by omega) (HBW.out w4 hbb4) ClAt.zero 7
    obtain ⟨hz, hret⟩ := hend
    change bodyPost _ _ _ _ _ (sw3 w4 (n0 + 1) (.slice none (zCls).1.1.length 0) (.slice none (zCls).1.2.length 0) (.slice none (zCls).2.length 0))
    generalize sw3 w4 (n0 + 1) (.slice none (zCls).1.1.length 0) (.slice none (zCls).1.2.length 0) (.slice none (zCls).2.length 0) = W3 at hz hret ⊢
    obtain ⟨z0, z1, z2, _⟩ := blk3 hz
    refine bodyPost_ret (v := .tuple #[.agg #[.slice none (zCls).1.1.length 0, .slice none (zCls).1.2.length 0, .slice none (zCls).2.length 0], .int .i64 7]) ?_ rfl ?_
    · simp [results, Tryz.results12, Tryz.f12, go_sem, z0, z1, z2, zCls, zSns]
    rw [HT.out, HE.out]; exact hret
  | true =>
  rw [if_neg (by decide)] at HCE
  obtain ⟨p0, p1, p2⟩ := HC.out w4 hbb4
  by_cases h16 : 16 ≤ cl.length
  case pos =>
    have h16' : (16 : Int) ≤ cl.length := by omega
    have HE : Hid (creE ((im, l), cl) nm num = 6) := by rw [Hid, HCE.out, if_pos h16]
    have HT := Lib.hid (HER.out 6 HE.out (by decide))
    obtain ⟨v0, v1, v2, vf⟩ := blk3 hr4
    go_wp2_with fail
    have hend := cl_end (w := w) (x := zCls) (A := none) (c := 0) (D := none) (d := 0) (G := none) (g := 0) hr4 (by omega) (HBW.out w4 hbb4) ClAt.zero 6
    obtain ⟨hz, hret⟩ := hend
    change bodyPost _ _ _ _ _ (sw3 w4 (n0 + 1) (.slice none (zCls).1.1.length 0) (.slice none (zCls).1.2.length 0) (.slice none (zCls).2.length 0))
    generalize sw3 w4 (n0 + 1) (.slice none (zCls).1.1.length 0) (.slice none (zCls).1.2.length 0) (.slice none (zCls).2.length 0) = W3 at hz hret ⊢
    obtain ⟨z0, z1, z2, _⟩ := blk3 hz
    refine bodyPost_ret (v := .tuple #[.agg #[.slice none (zCls).1.1.length 0, .slice none (zCls).1.2.length 0, .slice none (zCls).2.length 0], .int .i64 6]) ?_ rfl ?_
    · simp [results, Tryz.results12, Tryz.f12, go_sem, z0, z1, z2, zCls, zSns]
    rw [HT.out, HE.out]; exact hret
  have h16' : ¬ (16 : Int) ≤ cl.length := by omega
  have HE : Hid (creE ((im, l), cl) nm num = 0) := by rw [Hid, HCE.out, if_neg h16]
  have HT : Hid (creS ((im, l), cl) nm num = ((im, l), cl ++ [(nm, num, [])])) := by rw [Hid, creS, if_pos HE.out]
  have HO := Lib.hid (HOW.out w4 hbb4)
  go_wp2_with fail
  refine HO.out.mono ?_
  rintro e w5 ⟨B, vc, D, dc, G, gc, m1, m2, rfl, hcr, hb5⟩
  have hbb5 : Below n2 W0 w5 := hbb4.trans (hb5.mono (by have := hbb4.size; have := HN2.out; omega))
  clear p0 p1 p2 HO
  obtain ⟨ob, hob⟩ : ∃ ob, w5.heap.size = ob := ⟨_, rfl⟩
  obtain ⟨w6, hw6⟩ : ∃ w6, w5.alloc (.cells #[.slice B im.length vc, .slice D l.length dc, .slice G cl.length gc] 29) = w6 := ⟨_, rfl⟩
  have HW6 := Lib.hid hw6
  have hb6 : Below ob w5 w6 := by rw [← hw6, ← hob]; exact ext_alloc (Below.refl _ _)
  have hr6 : w6.heap[ob]? = some (.cells #[.slice B im.length vc, .slice D l.length dc, .slice G cl.length gc] 29 (0, 0)) := by rw [← hw6, ← hob]; exact heap_alloc_new _ _
  clear hw6
  go_upto_region 13 with (fail)
  rw [HW6.out]
  obtain ⟨q0, q1, q2, qf⟩ := blk3 hr6
  have hle := hcr.le
  have hlv := hcr.cl.lt
  have hz6 : ob < w6.heap.size := (Array.getElem?_eq_some_iff.1 hr6).1
  have hO6 : OwnX (fun b => b = ob) encCln w6 m2 87 (.slice G cl.length gc) cl := (hcr.cl.var (X' := fun b => b = ob) (fun g hg => Or.inr (by rw [hob]; omega))).below (by rw [hob]; exact hb6)
  have hO4 := Lib.hid (hO6.alloc (.cells #[.string nm, .int .i64 num, .slice none 0 0] 87))
  have hO4o := Lib.hid hO4.out.1
  have HCR := Lib.hid hcr
  have HRD : Hid (encCln.rd (w6.alloc (.cells #[.string nm, .int .i64 num, .slice none 0 0] 87)) (fun g => Nw m2 (w6.alloc (.cells #[.string nm, .int .i64 num, .slice none 0 0] 87)).heap.size g ∧ ¬ g = ob ∧ (Value.slice G cl.length gc).ownBlock ≠ some g) [.string nm, .int .i64 num, .slice none 0 0] (nm, num, [])) :=
    cln_mk (x := (nm, num, [])) (D := none) (c := 0) hnm hI (by simp) (by simp) SlAt.nil_
  have HBB5 := Lib.hid hbb5
  have HLV := Lib.hid hlv
  clear hcr hO6 HW6 hlv hbb5
  go_wp2_with (at_builtin; refine Hid.out ?_)
  change wpList _ _ _ _ _ _
  refine wpList_app1 (E := encCln) tyClns rfl _ _ rfl rfl hO4o.out (nm, num, []) [.string nm, .int .i64 num, .slice none 0 0] rfl HRD.out (heap_alloc_new _ _) (fun _ h => h.1.2) (by simp; omega) (by unfold maxLen; omega) (by omega) ?_
  intro A5 c5 w7 hown5 hg5 hat5
  have hz7 := hg5.size
  rw [World.size_alloc] at hz7
  have hO7 := hO4.out.app hown5 hg5 hat5 (fun g hg => by rw [World.size_alloc]; have : g = ob := hg; omega)
  have hk7 : ∀ g, g < m2 ∨ g = ob → w7.heap[g]? = w6.heap[g]? := fun g hg => (hg5.block g (by rw [World.size_alloc]; omega) (fun e => by
    rcases hg with hg | hg
    · have := (HLV.out g e.symm).1; omega
    · have := (HLV.out g e.symm).2; omega)).trans (Below.heap_alloc _ _ _ (by omega))
  have hr7 := (hk7 ob (Or.inr rfl)).trans hr6
  have hb67 : Below n2 w6 w7 := ((Below.refl n2 w6).alloc (by have := HBB5.out.size; have := HN2.out; omega) (.cells #[.string nm, .int .i64 num, .slice none 0 0] 87)).grown hg5 (by rw [World.size_alloc]; have := HBB5.out.size; have := HN2.out; omega) (fun g h => by have := (HLV.out g h).1; have := hbb4.size; have := HN2.out; omega)
  have hbb7 : Below n2 W0 w7 := (HBB5.out.trans (hb6.mono (by have := HBB5.out.size; have := HN2.out; omega))).trans hb67
  obtain ⟨xl, hxl⟩ : ∃ xl, cl ++ [(nm, num, [])] = xl := ⟨_, rfl⟩
  have hlen : cl.length + 1 = xl.length := by rw [← hxl]; simp
  rw [hxl, hlen] at hO7
  rw [hxl] at HT
  have HO7 := Lib.hid hO7
  clear q0 q1 q2 qf hown5 hg5 hat5 hO4 hO4o HRD hO7 hxl
  obtain ⟨q0, q1, q2, qf⟩ := blk3 hr7
  go_upto_region 14 with (fail)
  clear q0 q1 q2 qf
  change Code.wp _ _ _ _ (w7.setCell ⟨ob, 2, none⟩ (.slice A5 xl.length c5))
  have hr8 : (w7.setCell ⟨ob, 2, none⟩ (.slice A5 xl.length c5)).heap[ob]? = some (.cells #[.slice B im.length vc, .slice D l.length dc, .slice A5 xl.length c5] 29 (0, 0)) := blk3_set hr7 _
  have hO8 := Lib.hid (HO7.out.set (p := ⟨ob, 2, none⟩) rfl (.slice A5 xl.length c5))
  have hk8 : ∀ g, g < m2 → (w7.setCell ⟨ob, 2, none⟩ (.slice A5 xl.length c5)).heap[g]? = w5.heap[g]? := fun g hg => (heap_setCell_other _ _ _ _ (by show g ≠ ob; omega)).trans ((hk7 g (Or.inl hg)).trans (hb6.block g (by omega)))
  have hbb8 : Below n2 W0 (w7.setCell ⟨ob, 2, none⟩ (.slice A5 xl.length c5)) := hbb7.setCell (p := ⟨ob, 2, none⟩) (by show n2 ≤ ob; have := HBB5.out.size; have := HN2.out; omega) _
  have hz8 : (w7.setCell ⟨ob, 2, none⟩ (.slice A5 xl.length c5)).heap.size = w7.heap.size := by simp [World.setCell]
  generalize w7.setCell ⟨ob, 2, none⟩ (.slice A5 xl.length c5) = w8 at hr8 hO8 hk8 hbb8 hz8 ⊢
  have hz8' : w7.heap.size ≤ w8.heap.size := by omega
  obtain ⟨_, y1, y2, y3⟩ := hO8.out.parts
  have hlo : n0 + 1 < w4.heap.size ∧ w.heap.size ≤ w4.heap.size := by have := hbb4.size; have := HN2.out; omega
  have HCL : Hid (ClAt (((im, l), xl) : Cls) B vc D dc A5 c5 (fun q => w.heap.size ≤ q ∧ q < w8.heap.size ∧ q ≠ n0 + 1) w8) := by
    have h := HCR.out
    exact ⟨⟨h.im.1, h.im.2.1, (h.im.2.2.blk (fun g hg => hk8 g (by have := hg.2; omega))).more (fun g hg => ⟨by have := hg.1; omega, by have := hg.2; omega, by have := hg.1; omega⟩)⟩,
      ⟨h.sn.1, h.sn.2.1, (h.sn.2.2.blk (fun g hg => hk8 g hg.2)).more (fun g hg => ⟨by have := hg.1; omega, by have := hg.2; omega, by have := hg.1; omega⟩)⟩,
      ⟨y1, y2, y3.more (fun g hg => ⟨by have := hg.1.1; omega, hg.1.2, by have := hg.1.1; omega⟩)⟩⟩
  obtain ⟨q0, q1, q2, qf⟩ := blk3 hr8
  have hr18 := HRR.out w8 hbb8
  obtain ⟨v0, v1, v2, vf⟩ := blk3 hr18
  clear hz8 hk7 hk8 y3
  go_wp2_with fail
  have hend := cl_end (w := w) (x := (((im, l), xl) : Cls)) (A := B) (c := vc) (D := D) (d := dc) (G := A5) (g := c5) hr18 (by omega) (HBW.out w8 hbb8) HCL.out 0
  obtain ⟨hz, hret⟩ := hend
  change bodyPost _ _ _ _ _ (sw3 w8 (n0 + 1) (.slice B ((((im, l), xl) : Cls)).1.1.length vc) (.slice D ((((im, l), xl) : Cls)).1.2.length dc) (.slice A5 ((((im, l), xl) : Cls)).2.length c5))
  generalize sw3 w8 (n0 + 1) (.slice B ((((im, l), xl) : Cls)).1.1.length vc) (.slice D ((((im, l), xl) : Cls)).1.2.length dc) (.slice A5 ((((im, l), xl) : Cls)).2.length c5) = W3 at hz hret ⊢
  obtain ⟨z0, z1, z2, _⟩ := blk3 hz
  refine bodyPost_ret (v := .tuple #[.agg #[.slice B ((((im, l), xl) : Cls)).1.1.length vc, .slice D ((((im, l), xl) : Cls)).1.2.length dc, .slice A5 ((((im, l), xl) : Cls)).2.length c5], .int .i64 0]) ?_ rfl ?_
  · simp [results, Tryz.results12, Tryz.f12, go_sem, z0, z1, z2, zCls, zSns]
  rw [HT.out, HE.out]; exact hret
end Go.Proofs.YtgndgkjefgjamaaGreat
namespace Go.Proofs.YtgndgkjefgjamaaGreat
open Go.RowKit Go.Shelf
attribute [local go_sem] Oper.semAt_some

/-- all blocks but one keep -/
def BlX (X : Nat) (w w' : World) : Prop := (∀ g, g < w.heap.size → g ≠ X → w'.heap[g]? = w.heap[g]?) ∧ w'.heap.size = w.heap.size
theorem OwnX.noX2 {α : Type} {X : Nat → Prop} {E : Enc α} {w : World} {lo : Nat} {T : TypeId} {v : Value} {l : List α} (h : OwnX X E w lo T v l) : OwnX (fun _ => False) E w lo T v l :=
  ⟨h.1.more (fun g hg => ⟨hg.1, fun hf => hf, hg.2.2⟩) (fun g hg hS => hS.2.2 hg), fun g _ hf => hf⟩
/-- what find returns: an error, or a copy, and where the clone lies in it -/
def RetFind (s : Sns) (l : List Cln) (nm : ByteArray) (w : World) (e : Ending) (w' : World) : Prop :=
  (∃ q, q ≠ 0 ∧ cfE (s, l) nm = q ∧ e = .returned (.tuple #[.agg #[.slice none 0 0, .slice none 0 0, .slice none 0 0], .pointer none, .int .i64 q]) ∧ Below w.heap.size w w') ∨
  (∃ (k : Nat) (B : Option Addr) (vc : Nat) (D : Option Addr) (dc g gc m1 m2 : Nat), cfE (s, l) nm = 0 ∧ cfN (s, l) nm = k ∧ e = .returned (.tuple #[.agg #[.slice B s.1.length vc, .slice D s.2.length dc, .slice (some ⟨g, 0, none⟩) l.length gc], .pointer (some ⟨g, k * 3, none⟩), .int .i64 0]) ∧ ClRet s l B vc D dc (some ⟨g, 0, none⟩) gc m1 m2 w.heap.size w' ∧ Below w.heap.size w w')
set_option maxHeartbeats 4000000 in
set_option maxRecDepth 100000 in
theorem clFind_any (A A2 A3 : Option Addr) (c c2 c3 n m p : Nat) (im : Img) (l : List Snp) (cl : List Cln) (nm : ByteArray) (w : World) (hn : im.length = n) (hm : l.length = m) (hp : cl.length = p) (h1 : SlAt (encSl encSec) w (Bl w.heap.size) A im) (h2 : SlAt encSnp w (Bl w.heap.size) A2 l) (h3 : SlAt encCln w (Bl w.heap.size) A3 cl) (hL : ClLim (im, l) cl) :
    Calls Tryz.prog 61 #[.agg #[.slice A n c, .slice A2 m c2, .slice A3 p c3], .string nm] w (RetFind (im, l) cl nm w) := by
  subst hn hm hp
  obtain ⟨n0, hn0⟩ : ∃ n0, w.heap.size = n0 := ⟨_, rfl⟩
  obtain ⟨W0, hW0⟩ : ∃ W0, (w.alloc (.cells #[.slice A im.length c, .slice A2 l.length c2, .slice A3 cl.length c3] 29)).alloc (.cells #[.slice none 0 0, .slice none 0 0, .slice none 0 0] 29) = W0 := ⟨_, rfl⟩
  have hB0 : Below n0 w W0 := by rw [← hW0, ← hn0]; repeat (first | exact Below.refl _ _ | refine ext_alloc ?_)
  have hr0 : W0.heap[n0]? = some (.cells #[.slice A im.length c, .slice A2 l.length c2, .slice A3 cl.length c3] 29 (0, 0)) := by rw [← hW0, ← hn0]; exact (Below.heap_alloc _ _ _ (by simp)).trans (heap_alloc_new _ _)
  have hr1 : W0.heap[n0 + 1]? = some (.cells #[.slice none 0 0, .slice none 0 0, .slice none 0 0] 29 (0, 0)) := by rw [← hW0, ← hn0]; exact heap_new2 _ _ _
  obtain ⟨n2, hn2⟩ : ∃ n2, W0.heap.size = n2 := ⟨_, rfl⟩
  have hn02 : n0 + 1 < n2 := by rw [← hn2]; exact (Array.getElem?_eq_some_iff.1 hr1).1
  have up : ∀ {α : Type} {E : Enc α} {A : Option Addr} {l : List α}, SlAt E w (Bl w.heap.size) A l → ∀ W, Below n2 W0 W → SlAt E W (Bl W.heap.size) A l := fun h W hb => by
    rw [hn0] at h
    exact (h.blk (fun g hg => (hb.block g (by have : g < n0 := hg; omega)).trans (hB0.block g hg))).more (fun g hg => by have : g < n0 := hg; have := hb.size; show g < W.heap.size; omega)
  have H1 := Lib.hid (up h1)
  have H2 := Lib.hid (up h2)
  have H3 := Lib.hid (up h3)
  have HC : Hid (∀ W, Below n2 W0 W → W.cell? ⟨n0, 0, none⟩ = some (.slice A im.length c) ∧ W.cell? ⟨n0, 1, none⟩ = some (.slice A2 l.length c2) ∧ W.cell? ⟨n0, 2, none⟩ = some (.slice A3 cl.length c3)) := fun W hb => by
    obtain ⟨a, b, d, _⟩ := blk3 ((hb.block _ (by omega)).trans hr0)
    exact ⟨a, b, d⟩
  have HRR : Hid (∀ W, Below n2 W0 W → W.heap[n0 + 1]? = some (.cells #[.slice none 0 0, .slice none 0 0, .slice none 0 0] 29 (0, 0))) := fun W hb => (hb.block _ (by omega)).trans hr1
  have HROW0 : Hid (∀ W, Below n2 W0 W → W.heap[n0]? = some (.cells #[.slice A im.length c, .slice A2 l.length c2, .slice A3 cl.length c3] 29 (0, 0))) := fun W hb => (hb.block _ (by omega)).trans hr0
  have HBW : Hid (∀ W, Below n2 W0 W → Below w.heap.size w W) := fun W hb => by rw [hn0]; exact hB0.trans (hb.mono (by omega))
  have HN0 := Lib.hid hn0
  have HN2 := Lib.hid hn2
  have hN0 : n0 ≤ w.heap.size ∧ w.heap.size ≤ n0 := by omega
  have hl1 := hL.sn.ims
  have hl2 := hL.sn.its
  have hl3 := hL.its
  have HLM := Lib.hid hL
  simp only at hl1 hl2
  obtain ⟨s0, hs0⟩ : ∃ s0, clE ((im, l), cl) = s0 := ⟨_, rfl⟩
  have HCK := Lib.hid (fun W (hb : Below n2 W0 W) => clCheck_any A A2 A3 c c2 c3 im.length l.length cl.length im l cl s0 W rfl rfl rfl hs0 (H1.out W hb) (H2.out W hb) (H3.out W hb) hl1 (by omega) (by omega))
  have HOW := Lib.hid (fun W (hb : Below n2 W0 W) => own37_any A A2 A3 c c2 c3 im.length l.length cl.length im l cl W rfl rfl rfl (H1.out W hb) (H2.out W hb) (H3.out W hb) HLM.out)
  have HS0 := Lib.hid hs0
  have hB00 := Below.refl n2 W0
  obtain ⟨p0, p1, p2⟩ := HC.out W0 hB00
  clear h1 h2 h3 up hB0 hL hr0 hr1 hs0
  have HCE : Hid (cfE ((im, l), cl) nm = if s0 ≠ 0 then s0 else if (cfI cl nm).isNone then 7 else 0) := by rw [Hid, cfE, HS0.out]
  have HCK0 := Lib.hid (HCK.out W0 hB00)
  go_enter Tryz.func61, Tryz.ntmps61
  go_wp2_with fail
  refine HCK0.out.mono ?_
  rintro e w1 ⟨rfl, hb1⟩
  rw [HN2.out] at hb1
  clear p0 p1 p2 HCK0 hn2 hn0 hW0
  by_cases hx0 : s0 = 0
  case neg =>
    have hx0' : (s0 != 0) = true := by simp [hx0]
    have HE : Hid (cfE ((im, l), cl) nm = s0) := by rw [Hid, HCE.out, if_pos hx0]
    have HX := Lib.hid hx0
    clear hx0
    obtain ⟨v0, v1, v2, vf⟩ := blk3 (HRR.out w1 hb1)
    go_wp2_with fail
    have hz := sw3_row (HRR.out w1 hb1) (.slice none 0 0) (.slice none 0 0) (.slice none 0 0)
    have hbe := sw3_below (HBW.out w1 hb1) (show w.heap.size ≤ n0 + 1 by omega) (.slice none 0 0) (.slice none 0 0) (.slice none 0 0)
    change bodyPost _ _ _ _ _ (sw3 w1 (n0 + 1) (.slice none 0 0) (.slice none 0 0) (.slice none 0 0))
    generalize sw3 w1 (n0 + 1) (.slice none 0 0) (.slice none 0 0) (.slice none 0 0) = W3 at hz hbe ⊢
    obtain ⟨z0, z1, z2, _⟩ := blk3 hz
    refine bodyPost_ret (v := .tuple #[.agg #[.slice none 0 0, .slice none 0 0, .slice none 0 0], .pointer none, .int .i64 s0]) ?_ rfl ?_
    · simp [results, Tryz.results61, Tryz.f61, go_sem, z0, z1, z2]
    exact Or.inl ⟨s0, HX.out, HE.out, rfl, hbe⟩
  have hx0' : (s0 != 0) = false := by simp [hx0]
  rw [if_neg (by simp [hx0])] at HCE
  subst hx0
  obtain ⟨p0, p1, p2⟩ := HC.out w1 hb1
  have HO := Lib.hid (HOW.out w1 hb1)
  go_wp2_with fail
  refine HO.out.mono ?_
  rintro e w5 ⟨B, vc, D, dc, G, gc, m1, m2, rfl, hcr, hb5⟩
  have hbb5 : Below n2 W0 w5 := hb1.trans (hb5.mono (by have := hb1.size; have := HN2.out; omega))
  clear p0 p1 p2 HO
  obtain ⟨ob, hob⟩ : ∃ ob, w5.heap.size = ob := ⟨_, rfl⟩
  obtain ⟨w6, hw6⟩ : ∃ w6, w5.alloc (.cells #[.slice B im.length vc, .slice D l.length dc, .slice G cl.length gc] 29) = w6 := ⟨_, rfl⟩
  have HW6 := Lib.hid hw6
  have hb6 : Below ob w5 w6 := by rw [← hw6, ← hob]; exact ext_alloc (Below.refl _ _)
  have hr6 : w6.heap[ob]? = some (.cells #[.slice B im.length vc, .slice D l.length dc, .slice G cl.length gc] 29 (0, 0)) := by rw [← hw6, ← hob]; exact heap_alloc_new _ _
  have hle := hcr.le
  have hz1 := hb1.size
  have hN2 : n2 ≤ W0.heap.size := by have := HN2.out; omega
  have hz6 : ob < w6.heap.size := (Array.getElem?_eq_some_iff.1 hr6).1
  have hbb6 : Below n2 W0 w6 := hbb5.trans (hb6.mono (by omega))
  have hO6 : OwnX (fun b => b = ob) encCln w6 m2 87 (.slice G cl.length gc) cl := (hcr.cl.var (X' := fun b => b = ob) (fun g hg => Or.inr (by rw [hob]; omega))).below (by rw [hob]; exact hb6)
  have HO6 := Lib.hid hO6
  have HCR := Lib.hid hcr
  obtain ⟨_, _, _, hS6⟩ := hO6.parts
  obtain ⟨iv, hiv⟩ : ∃ i, idxAt (isN nm) cl = i := ⟨_, rfl⟩
  have hfi := idxAt_find (isN nm) cl
  rw [hiv] at hfi
  have HIX := Lib.hid (index37_any G gc cl.length cl nm w6 rfl (hS6.more (fun g hg => hg.1.2)) (by omega) iv hiv)
  clear hw6 hcr hO6 hS6 hiv
  go_upto_region 5 with (fail)
  rw [HW6.out]
  clear HW6
  obtain ⟨q0, q1, q2, qf⟩ := blk3 hr6
  go_wp2_with fail
  refine HIX.out.mono ?_
  rintro e w7 ⟨rfl, hb7⟩
  have hbb7 : Below n2 W0 w7 := hbb6.trans (hb7.mono (by omega))
  have hr7 := (hb7.block ob hz6).trans hr6
  clear q0 q1 q2 qf HIX
  cases hq : cl.findIdx? (isN nm) with
  | none =>
    rw [hq] at hfi
    simp only at hfi
    have HE : Hid (cfE ((im, l), cl) nm = 7) := by
      have : cfI cl nm = none := hq
      rw [Hid, HCE.out, this]; rfl
    subst hfi
    clear hq
    obtain ⟨v0, v1, v2, vf⟩ := blk3 (HRR.out w7 hbb7)
    go_wp2_with fail
    have hz := sw3_row (HRR.out w7 hbb7) (.slice none 0 0) (.slice none 0 0) (.slice none 0 0)
    have hbe := sw3_below (HBW.out w7 hbb7) (show w.heap.size ≤ n0 + 1 by omega) (.slice none 0 0) (.slice none 0 0) (.slice none 0 0)
    change bodyPost _ _ _ _ _ (sw3 w7 (n0 + 1) (.slice none 0 0) (.slice none 0 0) (.slice none 0 0))
    generalize sw3 w7 (n0 + 1) (.slice none 0 0) (.slice none 0 0) (.slice none 0 0) = W3 at hz hbe ⊢
    obtain ⟨z0, z1, z2, _⟩ := blk3 hz
    refine bodyPost_ret (v := .tuple #[.agg #[.slice none 0 0, .slice none 0 0, .slice none 0 0], .pointer none, .int .i64 7]) ?_ rfl ?_
    · simp [results, Tryz.results61, Tryz.f61, go_sem, z0, z1, z2]
    exact Or.inl ⟨7, by decide, HE.out, rfl, hbe⟩
  | some k =>
    rw [hq] at hfi
    simp only at hfi
    have HE : Hid (cfE ((im, l), cl) nm = 0) := by
      have : cfI cl nm = some k := hq
      rw [Hid, HCE.out, this]; rfl
    have HN : Hid (cfN ((im, l), cl) nm = k) := by
      have : cfI cl nm = some k := hq
      rw [Hid, cfN, if_pos HE.out]; show (cfI cl nm).getD 0 = k; rw [this]; rfl
    have hkl : k < cl.length := (List.findIdx?_eq_some_iff_getElem.1 hq).1
    obtain ⟨g, rfl, hg1, hg2, hg3⟩ := HO6.out.head (by omega)
    subst hfi
    clear hq
    have hk0 : ¬ ((k : Int) < 0) := by omega
    have hk1 : (0 : Int) ≤ k := by omega
    have hk2 : (k : Int) < cl.length := by omega
    have HC7 : Hid (∀ W, BlX (n0 + 1) w7 W → W.cell? ⟨ob, 0, none⟩ = some (.slice B im.length vc) ∧ W.cell? ⟨ob, 1, none⟩ = some (.slice D l.length dc) ∧ W.cell? ⟨ob, 2, none⟩ = some (.slice (some ⟨g, 0, none⟩) cl.length gc)) := fun W hb => by
      obtain ⟨a, b, d, _⟩ := blk3 ((hb.1 ob (by have := hb7.size; omega) (by omega)).trans hr7)
      exact ⟨a, b, d⟩
    have hSw : BlX (n0 + 1) w7 w7.drew := ⟨fun _ _ _ => rfl, rfl⟩
    have hr17 := HRR.out w7 hbb7
    go_upto_region 8 with (fail)
    refine wp_region_U (fun W' => BlX (n0 + 1) w7 W') 8 (by kernel_rfl) ?_
    refine wpAnyU_takeD (i := 0) (v := ?_) rfl rfl (by kernel_rfl) (by kernel_rfl) (by kernel_rfl) (by kernel_rfl) (fun _ _ _ h => h) (by rfl) ?_ hSw ?_
    rotate_left 1
    · intro W9 hW9
      try dsimp only at hW9
      obtain ⟨q0, q1, q2⟩ := HC7.out W9 hW9
      go_simp
      try with_reducible rfl
    try simp only [List.setIfInBounds_toArray, List.set_cons_zero, List.set_cons_succ]
    refine wpAnyU_takeD (i := 1) (v := ?_) rfl rfl (by kernel_rfl) (by kernel_rfl) (by kernel_rfl) (by kernel_rfl) (fun _ _ _ h => h) (by rfl) ?_ hSw ?_
    rotate_left 1
    · intro W9 hW9
      try dsimp only at hW9
      obtain _ := trivial
      go_simp
      try with_reducible rfl
    try simp only [List.setIfInBounds_toArray, List.set_cons_zero, List.set_cons_succ]
    refine wpAnyU_takeD (i := 2) (v := ?_) rfl rfl (by kernel_rfl) (by kernel_rfl) (by kernel_rfl) (by kernel_rfl) (fun _ _ _ h => h) (by rfl) ?_ hSw ?_
    rotate_left 1
    · intro W9 hW9
      try dsimp only at hW9
      obtain ⟨q0, q1, q2⟩ := HC7.out W9 hW9
      go_simp
      try with_reducible rfl
    try simp only [List.setIfInBounds_toArray, List.set_cons_zero, List.set_cons_succ]
    refine wpAnyU_takeD (i := 3) (v := ?_) rfl rfl (by kernel_rfl) (by kernel_rfl) (by kernel_rfl) (by kernel_rfl) (fun _ _ _ h => h) (by rfl) ?_ hSw ?_
    rotate_left 1
    · intro W9 hW9
      try dsimp only at hW9
      obtain _ := trivial
      go_simp
      try with_reducible rfl
    try simp only [List.setIfInBounds_toArray, List.set_cons_zero, List.set_cons_succ]
    refine wpAnyU_takeD (i := 4) (v := ?_) rfl rfl (by kernel_rfl) (by kernel_rfl) (by kernel_rfl) (by kernel_rfl) (fun _ _ _ h => h) (by rfl) ?_ hSw ?_
    rotate_left 1
    · intro W9 hW9
      try dsimp only at hW9
      obtain _ := trivial
      go_simp
      try with_reducible rfl
    try simp only [List.setIfInBounds_toArray, List.set_cons_zero, List.set_cons_succ]
    obtain ⟨v0, v1, v2, vf⟩ := blk3 hr17
    refine wpAnyU_op (i := 5) (by kernel_rfl) rfl rfl (fun K hK => ?_)
    go_simp
    have hS8 : BlX (n0 + 1) w7 (sw3 w7 (n0 + 1) (.slice B im.length vc) (.slice D l.length dc) (.slice (some ⟨g, 0, none⟩) cl.length gc)).drew := ⟨fun x _ hx => sw3_other hx _ _ _, sw3_sz⟩
    have HS8 := Lib.hid hS8
    clear hS8
    refine hK.out _ _ (fun _ => HS8.out) ?_
    clear hK K v0 v1 v2 vf
    change wpAnyU _ _ _ _ _ _ _ _ _ (sw3 w7 (n0 + 1) (.slice B im.length vc) (.slice D l.length dc) (.slice (some ⟨g, 0, none⟩) cl.length gc)).drew
    have hz : (sw3 w7 (n0 + 1) (.slice B im.length vc) (.slice D l.length dc) (.slice (some ⟨g, 0, none⟩) cl.length gc)).drew.heap[n0 + 1]? = _ := sw3_row hr17 (.slice B im.length vc) (.slice D l.length dc) (.slice (some ⟨g, 0, none⟩) cl.length gc)
    have hbe := (sw3_below (HBW.out w7 hbb7) (show w.heap.size ≤ n0 + 1 by omega) (.slice B im.length vc) (.slice D l.length dc) (.slice (some ⟨g, 0, none⟩) cl.length gc)).drew
    generalize (sw3 w7 (n0 + 1) (.slice B im.length vc) (.slice D l.length dc) (.slice (some ⟨g, 0, none⟩) cl.length gc)).drew = W3 at HS8 hz hbe ⊢
    try simp only [Act.put, List.setIfInBounds_toArray, List.set_cons_zero, List.set_cons_succ]
    refine wpAnyU_op (i := 6) (by kernel_rfl) rfl rfl (fun K hK => ?_)
    go_simp
    refine hK.out _ _ (fun _ => HS8.out) ?_
    clear hK K
    try simp only [Act.put, List.setIfInBounds_toArray, List.set_cons_zero, List.set_cons_succ]
    refine wpAnyU_op (i := 7) (by kernel_rfl) rfl rfl (fun K hK => ?_)
    go_simp
    refine hK.out _ _ (fun _ => HS8.out) ?_
    clear hK K
    try simp only [Act.put, List.setIfInBounds_toArray, List.set_cons_zero, List.set_cons_succ]
    refine wpAnyU_done (by kernel_rfl) ?_ _
    have hk3 : ∀ x, x < w6.heap.size → x ≠ n0 + 1 → W3.heap[x]? = w6.heap[x]? := fun x hx hne => (HS8.out.1 x (by have := hb7.size; omega) hne).trans (hb7.block x hx)
    have hsz3 : w6.heap.size ≤ W3.heap.size := by have := HS8.out.2; have := hb7.size; omega
    have hret : ClRet (im, l) cl B vc D dc (some ⟨g, 0, none⟩) gc m1 m2 w.heap.size W3 := by
      have h := HCR.out
      refine ⟨⟨h.im.1, h.im.2.1, (h.im.2.2.blk (fun x hx => (hk3 x (by have := hx.2; omega) (by have := hx.1; omega)).trans (hb6.block x (by have := hx.2; omega)))).more (fun x hx => ⟨by have := hx.1; omega, hx.2⟩)⟩,
        ⟨h.sn.1, h.sn.2.1, h.sn.2.2.blk (fun x hx => (hk3 x (by have := hx.2; omega) (by have := hx.1; omega)).trans (hb6.block x (by have := hx.2; omega)))⟩, ⟨by omega, by omega, by omega⟩,
        (HO6.out.keep hsz3 (fun x h1 h2 _ => hk3 x h2 (by omega))).noX2, by
          obtain ⟨ys, e1, e2⟩ := h.ow
          exact ⟨ys, e1, e2.keep (by omega) (fun x h1 h2 => (hk3 x (by omega) (by omega)).trans (hb6.block x (by omega)))⟩⟩
    have HRT := Lib.hid hret
    clear hret hk3
    obtain ⟨z0, z1, z2, _⟩ := blk3 hz
    go_wp2_with fail
    refine bodyPost_ret (v := .tuple #[.agg #[.slice B im.length vc, .slice D l.length dc, .slice (some ⟨g, 0, none⟩) cl.length gc], .pointer (some ⟨g, k * 3, none⟩), .int .i64 0]) ?_ rfl ?_
    · simp [results, Tryz.results61, Tryz.f61, go_sem, z0, z1, z2]
    exact Or.inr ⟨k, B, vc, D, dc, g, gc, m1, m2, HE.out, HN.out, rfl, HRT.out, hbe⟩
end Go.Proofs.YtgndgkjefgjamaaGreat
namespace Go.Proofs.YtgndgkjefgjamaaGreat
open Go.RowKit Go.Shelf
attribute [local go_sem] Oper.semAt_some

/-- append of all elements of a slice, at a step of a region that draws its order -/
theorem step_appAll {P : Program} {w : World} {α : Type} {E : Enc α} {t e : TypeId} {bytes : Nat} {ops : Array Oper} {o : Oper} {a : Act} {Q : Exit → Act → World → Prop} {K : Act → World → Prop} {X : Prop} (hT : SliceTy P t e E.size bytes) (hgd : o.guard = none) (s x : Operand) (ho : o.op = .call { callee := .builtin .append, args := #[s, x], argTypes := #[t, t] })
    {base : Nat} {S : Nat → Prop} {v : Value} {l : List α} (hs : a.eval s = v) (hown : Own E w base e S v l) {ad : Option Addr} {c m : Nat} {news : List α} (hx : a.eval x = .slice ad m c)
    (hm : m = news.length) (hr : SlAt E w S ad news) (hS : ∀ b, S b → b < w.heap.size) (hbase : base ≤ w.heap.size)
    (h63 : l.length + m ≤ maxLen) (hbytes : (l.length + m) * bytes ≤ 140737488355328)
    (h : ∀ A c' w', Own E w' base e S (.slice A (l.length + m) c') (l ++ news) → w.grownBy w' v.ownBlock → ((Value.slice A (l.length + m) c').ownBlock = v.ownBlock ∨ (Value.slice A (l.length + m) c').ownBlock = some w.heap.size) → K (a.put o.dst (.slice A (l.length + m) c')) w') :
    if Region.wanted o (yielded ops a.tmps) = true then Oper.wp P o a w K Q else X := by
  have hw : Region.wanted o (yielded ops a.tmps) = true := by simp [Region.wanted, hgd]
  rw [if_pos hw]
  have hrun : ∃ A c' w', (Builtin.append_ #[t, t] o.type #[v, .slice ad m c]).run P w = .ok (.slice A (l.length + m) c') w' ∧ Own E w' base e S (.slice A (l.length + m) c') (l ++ news) ∧ w.grownBy w' v.ownBlock ∧
      ((Value.slice A (l.length + m) c').ownBlock = v.ownBlock ∨ (Value.slice A (l.length + m) c').ownBlock = some w.heap.size) := by
    by_cases hn : news = []
    · subst hn
      exact run_app (P := P) (c := c) hT o.type hown (news := []) (css := []) hm trivial (fun h => absurd rfl h) hS hbase h63 hbytes
    · obtain ⟨b, off, rfl, _⟩ := hr.some_ hn
      obtain ⟨css, h1, h2, h3, h4⟩ := hr.row
      exact run_app (P := P) (c := c) hT o.type hown (news := news) (css := css) hm h3 (fun _ => ⟨_, rfl, h4⟩) hS hbase h63 hbytes
  obtain ⟨A, c', w', hr, h2, h3, h4⟩ := hrun
  unfold Oper.wp execOp
  simp only [ho, resolve, invoke, builtin, Sem.run_bind, Sem.run_pure, Result.andThen_ok, List.map_toArray, List.map_cons, List.map_nil, hs, hx, hr]
  exact h A c' w' h2 h3 h4
end Go.Proofs.YtgndgkjefgjamaaGreat

namespace Go.Proofs.YtgndgkjefgjamaaGreat
open Go.RowKit Go.Shelf
attribute [local go_sem] Oper.semAt_some

abbrev WB := Int × Int × Nat × Nat × Nat
/-- a write whose data lie in a block of their own, as a datum -/
def encWB : Enc WB where
  size := 3
  rd _ _ cs x := cs = [.int .i64 x.1, .int .i64 x.2.1, .slice (some ⟨x.2.2.1, 0, none⟩) x.2.2.2.1 x.2.2.2.2] ∧ (I64 x.1 ∧ I64 x.2.1) ∧ x.2.2.2.1 ≤ x.2.2.2.2 ∧ x.2.2.2.2 ≤ maxLen
  len h := by rw [h.1]; rfl
  one h := by rw [h.1]; simp [Value.oneCell']
  keep h _ _ := h
/-- writes that a call owns -/
structure WrsOwn (w : World) (lo : Nat) (A : Option Addr) (c : Nat) (xs : List WB) (l : List Wr) : Prop where
  outer : Own encWB w lo 45 (fun _ => False) (.slice A xs.length c) xs
  len : xs.length = l.length
  rows : ∀ (k : Nat) (h1 : k < xs.length) (h2 : k < l.length), RowOf w lo xs[k].2.2 l[k].2.2
  heads : ∀ (k : Nat) (h1 : k < xs.length) (h2 : k < l.length), xs[k].1 = l[k].1 ∧ xs[k].2.1 = l[k].2.1
  apart : (xs.map (·.2.2.1)).Nodup
section
variable {w w' : World} {lo : Nat} {A : Option Addr} {c : Nat} {xs : List WB} {l : List Wr}
theorem WrsOwn.nil_ : WrsOwn w lo none 0 [] [] := ⟨Own.nil_, rfl, fun _ h => by simp at h, fun _ h => by simp at h, List.nodup_nil⟩
theorem WrsOwn.below (h : WrsOwn w lo A c xs l) (hb : Below w.heap.size w w') : WrsOwn w' lo A c xs l :=
  ⟨Own.below h.outer hb (fun _ h => h.elim), h.len, fun k h1 h2 => (h.rows k h1 h2).blk (hb.block _ (h.rows k h1 h2).ty.2.1), h.heads, h.apart⟩
theorem WrsOwn.outNe (h : WrsOwn w lo A c xs l) {k : Nat} (h1 : k < xs.length) {g : Nat} (hg : (Value.slice A xs.length c).ownBlock = some g) : xs[k].2.2.1 ≠ g := fun e => by
  obtain ⟨_, cs, fr, k1⟩ := h.outer.cellsOf g hg
  obtain ⟨cs', k2⟩ := (h.rows k h1 (by rw [← h.len]; exact h1)).ty.2.2.2.2.2
  rw [e, k1] at k2
  injection k2 with k2
  injection k2 with _ k2 _
  exact absurd k2 (by decide)
theorem RowOf.rdS {S : Nat → Prop} {x : Nat × Nat × Nat} {row : List Sec} (h : RowOf w lo x row) (hS : S x.1) : SlAt encSec w S (some ⟨x.1, 0, none⟩) row := by
  obtain ⟨A', c', he, _, _, h3⟩ := Own.reads h (S' := S) (fun _ h => h.elim) (fun g hg => by
    have : x.1 = g := by simpa [Value.ownBlock] using hg
    rw [← this]; exact hS)
  simp only [List.cons.injEq, Value.slice.injEq, and_true] at he
  obtain ⟨rfl, _, _⟩ := he
  exact h3
theorem wb_all2 {S : Nat → Prop} : ∀ {css : List (List Value)} {xs : List WB} {l : List Wr}, All2 (encWB.rd w (fun _ => False)) css xs → (∀ (k : Nat) (h1 : k < xs.length) (h2 : k < l.length), RowOf w lo xs[k].2.2 l[k].2.2 ∧ (xs[k].1 = l[k].1 ∧ xs[k].2.1 = l[k].2.1) ∧ S xs[k].2.2.1) → xs.length = l.length → All2 (encWr.rd w S) css l
  | [], [], [], _, _, _ => trivial
  | [], _ :: _, _, h, _, _ => h.elim
  | _ :: _, [], _, h, _, _ => h.elim
  | [], [], _ :: _, _, _, h => by cases h
  | _ :: _, _ :: _, [], _, _, h => by cases h
  | cs :: css, x :: xs, y :: l, h, hk, hl => by
    refine ⟨?_, wb_all2 h.2 (fun k h1 h2 => hk (k + 1) (by simpa using h1) (by simpa using h2)) (by simpa using hl)⟩
    obtain ⟨k1, ⟨k2, k3⟩, k4⟩ := hk 0 (by simp) (by simp)
    simp only [List.getElem_cons_zero] at k1 k2 k3 k4
    obtain ⟨e1, ⟨e2, e3⟩, e4, e5⟩ := h.1
    obtain ⟨v, s, d⟩ := y
    obtain ⟨v', s', g, n, c'⟩ := x
    simp only at k1 k2 k3 k4 e1 e2 e3 e4 e5
    subst k2 k3 e1
    have ht := k1.ty
    simp only at ht
    obtain ⟨_, _, t3, t4, t5, _⟩ := ht
    subst t3
    exact wr_mk (x := (v', s', d)) e2 e3 t4 t5 (k1.rdS k4)
/-- the elements as writes -/
theorem WrsOwn.own (h : WrsOwn w lo A c xs l) : Own encWr w lo 45 (fun g => Nw lo w.heap.size g ∧ (Value.slice A l.length c).ownBlock ≠ some g) (.slice A l.length c) l := by
  have hne : ∀ (k : Nat) (h1 : k < xs.length) (g : Nat), (Value.slice A l.length c).ownBlock = some g → xs[k].2.2.1 ≠ g := fun k h1 g hg => h.outNe h1 (by rw [h.len]; exact hg)
  obtain ⟨⟨css, k1, k2, k3⟩, hl, hr, hh, ha⟩ := h
  rw [hl] at k1
  exact ⟨css, k1, wb_all2 k2 (fun k h1 h2 => ⟨hr k h1 h2, hh k h1 h2, ⟨(hr k h1 h2).ty.1, (hr k h1 h2).ty.2.1⟩, fun e => hne k h1 _ e rfl⟩) hl, fun g hg hS => hS.2 hg⟩
theorem WrsOwn.parts (h : WrsOwn w lo A c xs l) : l.length ≤ c ∧ c ≤ maxLen ∧ SlAt encWr w (Nw lo w.heap.size) A l := by
  obtain ⟨A', c', he, h1, h2, h3⟩ := h.own.reads (S' := Nw lo w.heap.size) (fun _ h => h.1) (fun g hg => h.own.lt g hg)
  simp only [List.cons.injEq, Value.slice.injEq, and_true] at he
  obtain ⟨rfl, _, rfl⟩ := he
  exact ⟨h1, h2, h3⟩
/-- behind an append of a write whose data were just made -/
theorem WrsOwn.snoc {A' : Option Addr} {c' : Nat} {x : WB} {y : Wr} {w1 : World} (h : WrsOwn w lo A c xs l) (hr : RowOf w lo x.2.2 y.2.2) (hh : x.1 = y.1 ∧ x.2.1 = y.2.1) (hnew : ∀ z ∈ xs, z.2.2.1 < x.2.2.1)
    (hn : Own encWB w1 lo 45 (fun _ => False) (.slice A' (xs.length + 1) c') (xs ++ [x])) (hg : w.grownBy w1 (Value.slice A xs.length c).ownBlock) : WrsOwn w1 lo A' c' (xs ++ [x]) (l ++ [y]) := by
  have key : ∀ y row, RowOf w lo y row → RowOf w1 lo y row := fun y row hy => hy.blk (hg.block _ hy.ty.2.1 (fun e => by
    obtain ⟨_, cs, fr, h1⟩ := h.outer.cellsOf y.1 e.symm
    obtain ⟨cs', h2⟩ := hy.ty.2.2.2.2.2
    rw [h1] at h2
    injection h2 with h2
    injection h2 with _ h2 _
    exact absurd h2 (by decide)))
  refine ⟨by simpa using hn, by simp [h.len], fun k h1 h2 => ?_, fun k h1 h2 => ?_, ?_⟩
  · by_cases hk : k < xs.length
    · rw [List.getElem_append_left hk, List.getElem_append_left (by rw [← h.len]; exact hk)]
      exact key _ _ (h.rows k hk (by rw [← h.len]; exact hk))
    · have hke : k = xs.length := by simp at h1; omega
      subst hke
      rw [List.getElem_append_right (Nat.le_refl _), List.getElem_append_right (by rw [h.len]; exact Nat.le_refl _)]
      simp only [Nat.sub_self, List.getElem_cons_zero, h.len]
      exact key _ _ hr
  · by_cases hk : k < xs.length
    · rw [List.getElem_append_left hk, List.getElem_append_left (by rw [← h.len]; exact hk)]
      exact h.heads k hk (by rw [← h.len]; exact hk)
    · have hke : k = xs.length := by simp at h1; omega
      subst hke
      rw [List.getElem_append_right (Nat.le_refl _), List.getElem_append_right (by rw [h.len]; exact Nat.le_refl _)]
      simp only [Nat.sub_self, List.getElem_cons_zero, h.len]
      exact hh
  · rw [List.map_append, List.nodup_append]
    refine ⟨h.apart, by simp, fun a ha b hb e => ?_⟩
    obtain ⟨y, hy, rfl⟩ := List.mem_map.1 ha
    simp only [List.map_cons, List.map_nil, List.mem_singleton] at hb
    subst hb
    have := hnew y hy
    omega
/-- behind a store into the data of one write -/
theorem WrsOwn.put {w1 : World} {k : Nat} {row : List Sec} (h : WrsOwn w lo A c xs l) (hk : k < xs.length) (hk2 : k < l.length) (hr : RowOf w1 lo xs[k].2.2 row) (hg : w.grownBy w1 (some xs[k].2.2.1)) : WrsOwn w1 lo A c xs (l.set k (l[k].1, l[k].2.1, row)) := by
  refine ⟨Own.blk h.outer (fun b hb => ?_), by simp [h.len], fun j h1 h2 => ?_, fun j h1 h2 => ?_, h.apart⟩
  · rcases hb with hb | hb
    · exact hb.elim
    · refine hg.block b (h.outer.lt b hb).2 (fun e => ?_)
      injection e with e
      exact h.outNe hk hb e.symm
  · rw [List.getElem_set]
    split
    · rename_i e
      subst e
      exact hr
    · rename_i e
      have h2' : j < l.length := by simpa using h2
      refine (h.rows j h1 h2').blk (hg.block _ (h.rows j h1 h2').ty.2.1 (fun e' => e ?_))
      injection e' with e'
      exact (List.getElem_inj (i := k) (j := j) (h₀ := by simpa using hk) (h₁ := by simpa using h1) h.apart).1 (by simpa using e'.symm)
  · rw [List.getElem_set]
    split
    · rename_i e
      subst e
      exact h.heads k h1 hk2
    · exact h.heads j h1 (by simpa using h2)
end
end Go.Proofs.YtgndgkjefgjamaaGreat
namespace Go.Proofs.YtgndgkjefgjamaaGreat
open Go.RowKit Go.Shelf
attribute [local go_sem] Oper.semAt_some

/-- snapshots as a call returns them, read as data -/
def SnRdE (s : Sns) (n : Int) (w : World) (e : Ending) (w' : World) : Prop :=
  ∃ B vc D dc, e = .returned (.tuple #[.agg #[.slice B s.1.length vc, .slice D s.2.length dc], .int .i64 n]) ∧ (s.1.length ≤ vc ∧ vc ≤ maxLen ∧ SlAt (encSl encSec) w' (Nw w.heap.size w'.heap.size) B s.1) ∧ (s.2.length ≤ dc ∧ dc ≤ maxLen ∧ SlAt encSnp w' (Nw w.heap.size w'.heap.size) D s.2) ∧ Below w.heap.size w w'
theorem SnRetE.rd {s : Sns} {n : Int} {w : World} {e : Ending} {w' : World} (h : SnRetE s n w e w') : SnRdE s n w e w' := by
  obtain ⟨B, vc, D, dc, mid, he, hs, hb⟩ := h
  obtain ⟨h1, h2⟩ := hs.read
  exact ⟨B, vc, D, dc, he, h1, h2, hb⟩
theorem SlAt.set2 {α : Type} {E : Enc α} {w : World} {S : Nat → Prop} {A : Option Addr} {l : List α} (h : SlAt E w S A l) {b : Nat} (hne : ∀ g, S g → g ≠ b) (u v : Value) : SlAt E ((w.setCell ⟨b, 0, none⟩ u).setCell ⟨b, 1, none⟩ v) S A l :=
  h.blk (fun g hg => (heap_setCell_other _ _ _ _ (hne g hg)).trans (heap_setCell_other _ _ _ _ (hne g hg)))
end Go.Proofs.YtgndgkjefgjamaaGreat
namespace Go.Proofs.YtgndgkjefgjamaaGreat
open Go.RowKit Go.Shelf
attribute [local go_sem] Oper.semAt_some

section
variable {w : World} {g k b : Nat} {x0 x1 x2 x3 x4 x5 x6 x7 : Int}
end
end Go.Proofs.YtgndgkjefgjamaaGreat

namespace Go.Proofs.YtgndgkjefgjamaaGreat
open Go.RowKit Go.Shelf
attribute [local go_sem] Oper.semAt_some

end Go.Proofs.YtgndgkjefgjamaaGreat

namespace Go.Proofs.YtgndgkjefgjamaaGreat
open Go.RowKit Go.Shelf
attribute [local go_sem] Oper.semAt_some

end Go.Proofs.YtgndgkjefgjamaaGreat

namespace Go.Proofs.YtgndgkjefgjamaaGreat
open Go.RowKit Go.Shelf
attribute [local go_sem] Oper.semAt_some

end Go.Proofs.YtgndgkjefgjamaaGreat

namespace Go.Proofs.YtgndgkjefgjamaaGreat
open Go.RowKit Go.Shelf
attribute [local go_sem] Oper.semAt_some

theorem atL_step {im : Img} {l : List Snp} {k : Nat} (hk : k < l.length) : atL im (l.drop k) = putAll (atL im (l.drop (k + 1))) l[k].2.2 := by
  unfold atL
  rw [List.drop_eq_getElem_cons hk, List.reverse_cons, List.foldl_append]; rfl
theorem atL_lens {im : Img} : ∀ {l : List Snp}, (∀ x ∈ l, ∀ y ∈ x.2.2, fitsN (lens im) y = 0) → lens (atL im l) = lens im
  | [], _ => rfl
  | x :: l, h => by
    have h1 : atL im (x :: l) = putAll (atL im l) x.2.2 := atL_step (l := x :: l) (k := 0) (by simp)
    have h2 := atL_lens (l := l) (fun y hy => h y (List.mem_cons_of_mem _ hy))
    rw [h1, putAll_lens (by rw [h2]; exact h x (List.mem_cons_self)), h2]
theorem applyL_ok {im : Img} {l : List Wr} (hz : sizesN (lens im) = 0) (hf : ∀ x ∈ l, fitsN (lens im) x = 0) : applyErr im l = 0 ∧ applyL im l = putAll im l := by
  have e1 : applyErr im l = 0 := by unfold applyErr; rw [if_neg (by rw [hz]; simp), errOf_zero hf]
  exact ⟨e1, by unfold applyL; rw [e1, if_pos rfl]⟩

end Go.Proofs.YtgndgkjefgjamaaGreat

namespace Go.Proofs.YtgndgkjefgjamaaGreat
open Go.RowKit Go.Shelf
attribute [local go_sem] Oper.semAt_some

theorem WrsOwn.sl {w : World} {lo : Nat} {B : Option Addr} {vc : Nat} {xs : List WB} {l : List Wr} (h : WrsOwn w lo B vc xs l) : SlAt encWr w (Bl w.heap.size) B l := by
  have hl := h.own.lt
  obtain ⟨A', c', he, k1, k2, k3⟩ := h.own.reads (S' := Bl w.heap.size) (fun g hg => hg.1.2) (fun g hg => (hl g hg).2)
  simp only [List.cons.injEq, Value.slice.injEq, and_true] at he
  obtain ⟨rfl, _, rfl⟩ := he
  exact k3
end Go.Proofs.YtgndgkjefgjamaaGreat
namespace Go.Proofs.YtgndgkjefgjamaaGreat
open Go.RowKit Go.Shelf
attribute [local go_sem] Oper.semAt_some

/-- what a check says of the clones' memory and of the image under them -/
theorem clE_fits {im : Img} {l : List Snp} {cl : List Cln} (h : clE ((im, l), cl) = 0) : sizesN (lens im) = 0 ∧ (∀ x ∈ l, ∀ y ∈ x.2.2, fitsN (lens im) y = 0) ∧ ∀ x ∈ cl, findE (im, l) x.2.1 = 0 ∧ ∀ y ∈ x.2.2, fitsN (lens im) y = 0 := by
  obtain ⟨h1, _, _⟩ := clE_ok h
  obtain ⟨h2, h3⟩ := snE_ok h1
  refine ⟨h2, h3, fun x hx => ?_⟩
  obtain ⟨k, hk, rfl⟩ := List.mem_iff_getElem.1 hx
  obtain ⟨_, _, h5, h6⟩ := clE_item h hk
  refine ⟨?_, fun y hy => ?_⟩
  · unfold findE
    rw [if_neg (by rw [h1]; simp)]
    have : (findI l (cl[k]).2.1).isNone = false := by
      rw [← Bool.not_eq_true, Option.isNone_iff_eq_none]
      intro h7
      have := List.findIdx?_eq_none_iff.1 h7
      obtain ⟨y, hy, hy2⟩ := List.any_eq_true.1 h5
      have := this y hy
      rw [show (y.1 == (cl[k]).2.1) = true from hy2] at this
      cases this
    simp only
    rw [this]; rfl
  · unfold chkS at h6
    rw [if_neg (by simp [h2])] at h6
    exact chk_all h6 y hy
theorem applyC_any (A A2 : Option Addr) (c c2 n m : Nat) (im r : List (List Sec)) (l : List Wr) (en : Int) (hn : im.length = n) (hm : l.length = m) (hr : applyL im l = r) (he : applyErr im l = en) (w : World) (h1 : SlAt (encSl encSec) w (Bl w.heap.size) A im) (hl : n ≤ 1000000) (h2 : SlAt encWr w (Bl w.heap.size) A2 l) (hl2 : m ≤ 9223372036854775807) :
    Calls Tryz.prog 68 #[.slice A n c, .slice A2 m c2] w fun e w' => ∃ A c i, e = .returned (.tuple #[.slice A r.length c, .int .i64 i, .int .i64 en]) ∧ (r.length ≤ c ∧ c ≤ maxLen ∧ SlAt (encSl encSec) w' (Nw w.heap.size w'.heap.size) A r) ∧ Below w.heap.size w w' := by
  subst hn hm hr he
  exact (apply_any A A2 c c2 im l w h1 hl h2 hl2).mono fun _ _ ⟨A, c, i, h1, h2, h3, h4, h5⟩ => ⟨A, c, i, h1, ⟨h2, h3, h4⟩, h5⟩
set_option maxHeartbeats 4000000 in
set_option maxRecDepth 100000 in
theorem clImage_any (A A2 A3 : Option Addr) (c c2 c3 n m p : Nat) (im : Img) (l : List Snp) (cl : List Cln) (nm : ByteArray) (w : World) (hn : im.length = n) (hm : l.length = m) (hp : cl.length = p) (h1 : SlAt (encSl encSec) w (Bl w.heap.size) A im) (h2 : SlAt encSnp w (Bl w.heap.size) A2 l) (h3 : SlAt encCln w (Bl w.heap.size) A3 cl) (hL : ClLim (im, l) cl) (r : Img) (hr : cIm ((im, l), cl) nm = r) (en : Int) (he : cfE ((im, l), cl) nm = en) :
    Calls Tryz.prog 21 #[.agg #[.slice A n c, .slice A2 m c2, .slice A3 p c3], .string nm] w fun e w' => ∃ B vc, e = .returned (.tuple #[.slice B r.length vc, .int .i64 en]) ∧ r.length ≤ vc ∧ vc ≤ maxLen ∧ SlAt (encSl encSec) w' (Nw w.heap.size w'.heap.size) B r ∧ Below w.heap.size w w' := by
  subst hn hm hp
  have HRR0 := Lib.hid hr
  have HEN := Lib.hid he
  clear hr he
  obtain ⟨n0, hn0⟩ : ∃ n0, w.heap.size = n0 := ⟨_, rfl⟩
  obtain ⟨W0, hW0⟩ : ∃ W0, w.alloc (.cells #[.slice A im.length c, .slice A2 l.length c2, .slice A3 cl.length c3] 29) = W0 := ⟨_, rfl⟩
  have hB0 : Below n0 w W0 := by rw [← hW0, ← hn0]; exact ext_alloc (Below.refl _ _)
  have hr0 : W0.heap[n0]? = some (.cells #[.slice A im.length c, .slice A2 l.length c2, .slice A3 cl.length c3] 29 (0, 0)) := by rw [← hW0, ← hn0]; exact heap_alloc_new _ _
  obtain ⟨n2, hn2⟩ : ∃ n2, W0.heap.size = n2 := ⟨_, rfl⟩
  have hn02 : n0 < n2 := by rw [← hn2]; exact (Array.getElem?_eq_some_iff.1 hr0).1
  have up : ∀ {α : Type} {E : Enc α} {A : Option Addr} {l : List α}, SlAt E w (Bl w.heap.size) A l → ∀ W, Below n2 W0 W → SlAt E W (Bl W.heap.size) A l := fun h W hb => by
    rw [hn0] at h
    exact (h.blk (fun g hg => (hb.block g (by have : g < n0 := hg; omega)).trans (hB0.block g hg))).more (fun g hg => by have : g < n0 := hg; have := hb.size; show g < W.heap.size; omega)
  have hB00 := Below.refl n2 W0
  have hl1 := hL.sn.ims
  have hl2 := hL.sn.its
  have hl3 := hL.its
  simp only at hl1 hl2
  have HLM := Lib.hid hL
  have HN0 := Lib.hid hn0
  have HN2 := Lib.hid hn2
  have hN0 : n0 ≤ w.heap.size ∧ w.heap.size ≤ n0 := by omega
  have HBW : Hid (∀ W, Below n2 W0 W → Below w.heap.size w W) := fun W hb => by rw [hn0]; exact hB0.trans (hb.mono (by omega))
  have HFI := Lib.hid (clFind_any A A2 A3 c c2 c3 im.length l.length cl.length im l cl nm W0 rfl rfl rfl (up h1 W0 hB00) (up h2 W0 hB00) (up h3 W0 hB00) HLM.out)
  obtain ⟨p0, p1, p2, _⟩ := blk3 hr0
  clear h1 h2 h3 up hB0 hL hr0
  go_enter Tryz.func21, Tryz.ntmps21
  go_wp2_with fail
  refine HFI.out.mono ?_
  intro e w1 hf
  rcases hf with ⟨q, hq0, hqe, rfl, hb1⟩ | ⟨k, B, vc, D, dc, g, gc, m1, m2, hE0, hN0', rfl, hcr, hb1⟩
  · rw [HN2.out] at hb1
    clear p0 p1 p2 HFI hn2 hn0 hW0
    obtain ⟨ob, hob⟩ : ∃ ob, w1.heap.size = ob := ⟨_, rfl⟩
    have hq0' : (q != 0) = true := by simp [hq0]
    have HE := Lib.hid hqe
    have HQ0 := Lib.hid hq0
    clear hq0 hqe
    obtain ⟨w2, hw2⟩ : ∃ w2, w1.alloc (.cells #[.slice none 0 0, .slice none 0 0, .slice none 0 0] 29) = w2 := ⟨_, rfl⟩
    have hb2 : Below n2 W0 w2 := by rw [← hw2]; exact hb1.alloc (by have := hb1.size; have := HN2.out; omega) _
    have HW2 := Lib.hid hw2
    clear hw2
    go_upto_region 2 with (fail)
    rw [HW2.out]
    clear HW2
    have hen : Hid (q = en) := by rw [Hid, ← HEN.out]; exact HE.out.symm
    have hrr : Hid (r = []) := by rw [Hid, ← HRR0.out, cIm, if_neg (by rw [HE.out]; exact HQ0.out)]
    go_wp2_with fail
    go_ret2
    rw [hen.out, hrr.out]
    exact ⟨none, 0, rfl, by simp, by simp, SlAt.nil_, HBW.out w2 hb2⟩
  · rw [HN2.out] at hb1
    clear p0 p1 p2 HFI hn2 hn0 hW0
    obtain ⟨ob, hob⟩ : ∃ ob, w1.heap.size = ob := ⟨_, rfl⟩
    have HE := Lib.hid hE0
    obtain ⟨hck, hkl, hknm, hfd⟩ := cfE_ok hE0
    simp only at hkl hfd
    rw [hN0'] at hkl
    have HNK := Lib.hid hN0'
    have HCKE := Lib.hid hck
    obtain ⟨w2, hw2⟩ : ∃ w2, w1.alloc (.cells #[.slice B im.length vc, .slice D l.length dc, .slice (some ⟨g, 0, none⟩) cl.length gc] 29) = w2 := ⟨_, rfl⟩
    have hb12 : Below ob w1 w2 := by rw [← hw2, ← hob]; exact ext_alloc (Below.refl _ _)
    have hr2 : w2.heap[ob]? = some (.cells #[.slice B im.length vc, .slice D l.length dc, .slice (some ⟨g, 0, none⟩) cl.length gc] 29 (0, 0)) := by rw [← hw2, ← hob]; exact heap_alloc_new _ _
    have hle := hcr.le
    have hz1 := hb1.size
    have hN2 : n2 ≤ W0.heap.size ∧ W0.heap.size ≤ n2 := by have := HN2.out; omega
    have hz2 : ob < w2.heap.size := (Array.getElem?_eq_some_iff.1 hr2).1
    have hb2 : Below n2 W0 w2 := hb1.trans (hb12.mono (by omega))
    have hO2 : OwnX (fun b => b = ob) encCln w2 m2 87 (.slice (some ⟨g, 0, none⟩) cl.length gc) cl := (hcr.cl.var (X' := fun b => b = ob) (fun g hg => Or.inr (by rw [hob]; omega))).below (by rw [hob]; exact hb12)
    have HO2 := Lib.hid hO2
    have HCR := Lib.hid hcr
    obtain ⟨_, _, _, hS2⟩ := hO2.parts
    have hgl := hO2.lt g rfl
    have hgo : g ≠ ob := hO2.2 g rfl
    obtain ⟨b', off', Dx, dx, hA', hbS, g0, g1, g2, hDx, hd1, hd2, hi1, hi2⟩ := hS2.cln hkl
    injection hA' with hA'
    injection hA' with hA1 hA2
    subst hA1 hA2
    obtain ⟨xv, hxv⟩ : ∃ x, cl[k] = x := ⟨_, rfl⟩
    rw [hxv] at g0 g1 g2 hDx hd1 hi1 hi2
    have HXV : Hid (cAt ((im, l), cl) nm = xv) := by rw [Hid, cAt, hN0', List.getD_eq_getElem?_getD, List.getElem?_eq_getElem hkl]; exact hxv
    have HXM : Hid (xv ∈ cl) := by rw [Hid, ← hxv]; exact List.getElem_mem hkl
    obtain ⟨xn, xnum, xs⟩ := xv
    simp only [Nat.zero_add] at g0 g1 g2 hDx hd1 hi1 hi2
    obtain ⟨nq, hnq⟩ : ∃ nq, w2.heap.size = nq := ⟨_, rfl⟩
    have hnqs : nq ≤ w2.heap.size ∧ w2.heap.size ≤ nq := by omega
    have HOC : Hid (∀ W, Below nq w2 W → W.cell? ⟨ob, 0, none⟩ = some (.slice B im.length vc) ∧ W.cell? ⟨ob, 1, none⟩ = some (.slice D l.length dc) ∧ W.cell? ⟨ob, 2, none⟩ = some (.slice (some ⟨g, 0, none⟩) cl.length gc)) := fun W hb => by
      obtain ⟨a, b, d, _⟩ := blk3 ((hb.block ob (by omega)).trans hr2)
      exact ⟨a, b, d⟩
    have HXC : Hid (∀ W, Below nq w2 W → W.cell? ⟨g, k * 3, none⟩ = some (.string xn) ∧ W.cell? ⟨g, k * 3 + 1, none⟩ = some (.int .i64 xnum) ∧ W.cell? ⟨g, k * 3 + 2, none⟩ = some (.slice Dx xs.length dx)) := fun W hb => by
      have hgg : ∀ i, W.cell? ⟨g, i, none⟩ = w2.cell? ⟨g, i, none⟩ := fun i => World.cell?_of_block (hb.block g (by omega))
      exact ⟨(hgg _).trans g0, (hgg _).trans g1, (hgg _).trans g2⟩
    have HXS : Hid (∀ W, Below nq w2 W → SlAt encWr W (Bl W.heap.size) Dx xs) := fun W hb => (hDx.blk (fun x hx => hb.block x (by have := hx.1.2; omega))).more (fun x hx => by have := hx.1.2; have := hb.size; show x < W.heap.size; omega)
    have HIM : Hid (∀ W, Below nq w2 W → SlAt (encSl encSec) W (Bl W.heap.size) B im ∧ SlAt encSnp W (Bl W.heap.size) D l) := fun W hb => by
      have hz := hb.size
      exact ⟨(HCR.out.im.2.2.blk (fun x hx => (hb.block x (by have := hx.2; omega)).trans (hb12.block x (by have := hx.2; omega)))).more (fun x hx => by have := hx.2; show x < W.heap.size; omega), (HCR.out.sn.2.2.blk (fun x hx => (hb.block x (by have := hx.2; omega)).trans (hb12.block x (by have := hx.2; omega)))).more (fun x hx => by have := hx.2; show x < W.heap.size; omega)⟩
    have HBQ : Hid (∀ W, Below nq w2 W → Below n2 W0 W) := fun W hb => hb2.trans (hb.mono (by omega))
    have HCAP := Lib.hid (And.intro HCR.out.im.1 (And.intro HCR.out.im.2.1 (And.intro HCR.out.sn.1 HCR.out.sn.2.1)))
    have HW2 := Lib.hid hw2
    have hk0 : (0 : Int) ≤ k := by omega
    have hk9 : (k : Int) ≤ 9223372036854775806 := by omega
    have hckl : cl.length ≤ 16 := (clE_ok hck).2.1
    clear hw2 hcr hO2 hS2 hE0 hck hknm hfd hN0' g0 g1 g2 hDx hnq hxv hbS
    go_upto_region 2 with (fail)
    rw [HW2.out]
    clear HW2
    obtain ⟨hf1, hf2, hf3⟩ := clE_fits HCKE.out
    obtain ⟨hf4, hf5⟩ := hf3 _ HXM.out
    simp only at hf4 hf5
    obtain ⟨si, hsi⟩ : ∃ si, sImage (im, l) xnum = si := ⟨_, rfl⟩
    have hsil : lens si = lens im := by rw [← hsi, sImage, if_pos hf4]; exact atL_lens (fun x hx => hf2 x (List.drop_subset _ _ hx))
    have hsll : si.length ≤ 100000 := by
      have := congrArg List.length hsil
      simp [lens] at this; omega
    have hap := applyL_ok (im := si) (l := xs) (by rw [hsil]; exact hf1) (fun x hx => by rw [hsil]; exact hf5 x hx)
    have hrr : applyL si xs = r := by
      rw [hap.2, ← HRR0.out, cIm, if_pos HE.out, HXV.out, ← hsi]
    have hen : Hid ((0 : Int) = en) := by rw [Hid, ← HEN.out]; exact HE.out.symm
    have HSI := Lib.hid (fun W (hb : Below nq w2 W) => snImage_any B D vc dc im.length l.length im l xnum W rfl rfl (HIM.out W hb).1 (HIM.out W hb).2 HLM.out.sn HCAP.out.2.2.1 si hsi 0 hf4)
    have HAP := Lib.hid (fun W Bi vi (hb : Below nq w2 W) (h : SlAt (encSl encSec) W (Bl W.heap.size) Bi si) => applyC_any Bi Dx vi dx si.length xs.length si r xs 0 rfl rfl hrr hap.1 W h (by omega) (HXS.out W hb) (by unfold maxLen at hd2; omega))
    have hSw : Below nq w2 w2.drew := (Below.refl nq w2).drew
    clear hf1 hf2 hf3 hf4 hf5 hsi hsil hap hrr
    go_upto_region 4 with (fail)
    go_cut [9, 8] (fun e f wx => f = .int .i64 0 ∧ (∃ Bi vi, e = .slice Bi si.length vi ∧ SlAt (encSl encSec) wx (Bl wx.heap.size) Bi si) ∧ Below nq w2 wx)
    case first =>
      refine wp_region_U (fun W' => Below nq w2 W') 12 (by kernel_rfl) ?_
      refine wpAnyU_takeD (i := 0) (v := ?_) rfl rfl (by kernel_rfl) (by kernel_rfl) (by kernel_rfl) (by kernel_rfl) (fun _ _ _ h => h) (by rfl) ?_ hSw ?_
      rotate_left 1
      · intro W9 hW9
        try dsimp only at hW9
        obtain _ := trivial
        go_simp
        try with_reducible rfl
      try simp only [List.setIfInBounds_toArray, List.set_cons_zero, List.set_cons_succ]
      refine wpAnyU_takeD (i := 1) (v := ?_) rfl rfl (by kernel_rfl) (by kernel_rfl) (by kernel_rfl) (by kernel_rfl) (fun _ _ _ h => h) (by rfl) ?_ hSw ?_
      rotate_left 1
      · intro W9 hW9
        try dsimp only at hW9
        obtain ⟨q0, q1, q2⟩ := HOC.out W9 hW9
        go_simp
        try with_reducible rfl
      try simp only [List.setIfInBounds_toArray, List.set_cons_zero, List.set_cons_succ]
      refine wpAnyU_takeD (i := 2) (v := ?_) rfl rfl (by kernel_rfl) (by kernel_rfl) (by kernel_rfl) (by kernel_rfl) (fun _ _ _ h => h) (by rfl) ?_ hSw ?_
      rotate_left 1
      · intro W9 hW9
        try dsimp only at hW9
        obtain _ := trivial
        go_simp
        try with_reducible rfl
      try simp only [List.setIfInBounds_toArray, List.set_cons_zero, List.set_cons_succ]
      refine wpAnyU_takeD (i := 3) (v := ?_) rfl rfl (by kernel_rfl) (by kernel_rfl) (by kernel_rfl) (by kernel_rfl) (fun _ _ _ h => h) (by rfl) ?_ hSw ?_
      rotate_left 1
      · intro W9 hW9
        try dsimp only at hW9
        obtain _ := trivial
        go_simp
        try with_reducible rfl
      try simp only [List.setIfInBounds_toArray, List.set_cons_zero, List.set_cons_succ]
      refine wpAnyU_takeD (i := 4) (v := ?_) rfl rfl (by kernel_rfl) (by kernel_rfl) (by kernel_rfl) (by kernel_rfl) (fun _ _ _ h => h) (by rfl) ?_ hSw ?_
      rotate_left 1
      · intro W9 hW9
        try dsimp only at hW9
        obtain _ := trivial
        go_simp
        try with_reducible rfl
      try simp only [List.setIfInBounds_toArray, List.set_cons_zero, List.set_cons_succ]
      refine wpAnyU_takeD (i := 5) (v := ?_) rfl rfl (by kernel_rfl) (by kernel_rfl) (by kernel_rfl) (by kernel_rfl) (fun _ _ _ h => h) (by rfl) ?_ hSw ?_
      rotate_left 1
      · intro W9 hW9
        try dsimp only at hW9
        obtain ⟨q0, q1, q2⟩ := HXC.out W9 hW9
        go_simp
        try with_reducible rfl
      try simp only [List.setIfInBounds_toArray, List.set_cons_zero, List.set_cons_succ]
      refine wpAnyU_op (i := 6) (by kernel_rfl) rfl rfl (fun K hK => ?_)
      go_wp2_with fail
      refine ((HSI.out _ hSw)).mono ?_
      rintro e w6 ⟨Bi, vi, rfl, i1, i2, i3, hb6⟩
      refine hK.out _ _ (fun _ => (hSw.trans (hb6.mono (by have := hSw.size; omega)))) ?_
      clear hK K
      try simp only [Act.put, List.setIfInBounds_toArray, List.set_cons_zero, List.set_cons_succ]
      have hS6 : Below nq w2 w6 := hSw.trans (hb6.mono (by have := hSw.size; omega))
      refine wpAnyU_op (i := 7) (by kernel_rfl) rfl rfl (fun K hK => ?_)
      go_simp
      refine hK.out _ _ (fun _ => hS6) ?_
      clear hK K
      try simp only [Act.put, List.setIfInBounds_toArray, List.set_cons_zero, List.set_cons_succ]
      clear hSw
      have hSw := hS6
      refine wpAnyU_takeD (i := 8) (v := ?_) rfl rfl (by kernel_rfl) (by kernel_rfl) (by kernel_rfl) (by kernel_rfl) (fun _ _ _ h => h) (by rfl) ?_ hSw ?_
      rotate_left 1
      · intro W9 hW9
        try dsimp only at hW9
        obtain _ := trivial
        go_simp
        try with_reducible rfl
      try simp only [List.setIfInBounds_toArray, List.set_cons_zero, List.set_cons_succ]
      refine wpAnyU_takeD (i := 9) (v := ?_) rfl rfl (by kernel_rfl) (by kernel_rfl) (by kernel_rfl) (by kernel_rfl) (fun _ _ _ h => h) (by rfl) ?_ hSw ?_
      rotate_left 1
      · intro W9 hW9
        try dsimp only at hW9
        obtain _ := trivial
        go_simp
        try with_reducible rfl
      try simp only [List.setIfInBounds_toArray, List.set_cons_zero, List.set_cons_succ]
      refine wpAnyU_op (i := 10) (by kernel_rfl) rfl rfl (fun K hK => ?_)
      go_simp
      refine hK.out _ _ (fun _ => hS6) ?_
      clear hK K
      try simp only [Act.put, List.setIfInBounds_toArray, List.set_cons_zero, List.set_cons_succ]
      refine wpAnyU_op (i := 11) (by kernel_rfl) rfl rfl (fun K hK => ?_)
      go_simp
      refine hK.out _ _ (fun _ => hS6) ?_
      clear hK K
      try simp only [Act.put, List.setIfInBounds_toArray, List.set_cons_zero, List.set_cons_succ]
      refine wpAnyU_done (by kernel_rfl) ?_ _
      go_wp2
      go_meet
      exact ⟨rfl, ⟨Bi, vi, rfl, i3.more (fun g hg => hg.2)⟩, hS6⟩
    case rest =>
      obtain ⟨rfl, ⟨Bi, vi, rfl, hsl⟩, hbx⟩ := hcut
      obtain ⟨q0, q1, q2⟩ := HXC.out _ hbx
      have HA := Lib.hid (HAP.out _ Bi vi hbx hsl)
      clear hsl
      go_wp2_with fail
      refine HA.out.mono ?_
      rintro e w7 ⟨A7, c7, i7, rfl, ⟨a1, a2, a3⟩, hb7⟩
      have HA3 := Lib.hid a3
      have hbz := hbx.size
      have hbb := hb2.size
      have hbf := HBW.out w7 ((HBQ.out _ hbx).trans (hb7.mono (by omega)))
      clear a3 q0 q1 q2
      go_wp2_with fail
      go_ret2
      rw [hen.out]
      exact ⟨A7, c7, rfl, a1, a2, HA3.out.more (fun g hg => ⟨by have := hg.1; omega, hg.2⟩), hbf⟩
end Go.Proofs.YtgndgkjefgjamaaGreat
