/-
  A run of steps over snapshots: what a step leaves in memory.
-/
import Derived.Test.YtgmeghandjkkcaaDb
set_option linter.unusedVariables false
set_option linter.unusedSimpArgs false
set_option linter.unusedSectionVars false
set_option linter.unnecessarySimpa false
namespace Go.Proofs.Ytgmeghandjkkcaa
open Go.RowKit Go.Shelf

theorem Calls.at_w {P : Program} {f : FuncId} {args : Array Value} {R : Ending → World → Prop} (w : World) (h : Calls P f args w R) : Calls P f args w R := h
theorem runS_apply {k : Nat} {x : Stp} {im : Img} {l : List Snp} {all : List Kpt} (h : x.1 % 8 < 4) : runS k x (im, l, all) = (putAll im [dataW x], setLast l (fun d => foldL (contL im [dataW x] ++ d)), all) := by
  unfold runS; rw [if_pos h]
theorem runS_take {k : Nat} {x : Stp} {im : Img} {l : List Snp} {all : List Kpt} (h1 : ¬ x.1 % 8 < 4) (h2 : x.1 % 8 < 6) : runS k x (im, l, all) = (im, l ++ [((10 + k : Int), (k : Int), [])], all ++ [((10 + k : Int), im, (k : Int))]) := by
  unfold runS; rw [if_neg h1, if_pos h2]
theorem runS_none {k : Nat} {x : Stp} {im : Img} {l : List Snp} {all : List Kpt} (h1 : ¬ x.1 % 8 < 4) (h2 : ¬ x.1 % 8 < 6) (h3 : all.length = 0) : runS k x (im, l, all) = (im, l, all) := by
  unfold runS; rw [if_neg h1, if_neg h2, dif_pos h3]
theorem runS_delete {k : Nat} {x : Stp} {im : Img} {l : List Snp} {all : List Kpt} (h2 : ¬ x.1 % 8 < 6) (h3 : ¬ all.length = 0) (h4 : x.1 % 8 = 6) {j : Nat} (hj : stJ x all.length = j) : runS k x (im, l, all) = (im, delL l j, all.eraseIdx j) := by
  unfold runS; rw [if_neg (by omega), if_neg h2, dif_neg h3, if_pos h4, hj]
theorem runS_revert {k : Nat} {x : Stp} {im : Img} {l : List Snp} {all : List Kpt} (h2 : ¬ x.1 % 8 < 6) (h3 : ¬ all.length = 0) (h4 : ¬ x.1 % 8 = 6) {j : Nat} (hj : stJ x all.length = j) (hjl : j < all.length) : runS k x (im, l, all) = (all[j].2.1, setLast (l.take (j + 1)) (fun _ => []), all.take (j + 1)) := by
  unfold runS; rw [if_neg (by omega), if_neg h2, dif_neg h3, if_neg h4, hj, List.getD_eq_getElem?_getD, List.getElem?_eq_getElem hjl]; rfl
/-- the variable of new snapshots behind a call -/
structure XRow (lo : Nat) (w0 : World) (im : Img) (l : List Snp) (w : World) (xb : Nat) (B : Option Addr) (vc : Nat) (D : Option Addr) (dc : Nat) : Prop where
  le : lo ≤ xb
  ext : Below lo w0 w
  row : w.heap[xb]? = some (.cells #[.slice B im.length vc, .slice D l.length dc] 26 (0, 0))
  cap : im.length ≤ vc ∧ vc ≤ maxLen ∧ l.length ≤ dc ∧ dc ≤ maxLen
  cur : SlAt (encSl encSec) w (Nw lo w.heap.size) B im
  its : SlAt encSnp w (Nw lo w.heap.size) D l
section
variable {lo xb : Nat} {w0 w wc : World} {im : Img} {l : List Snp} {B D : Option Addr} {vc dc : Nat}
theorem XRow.mkSet {c0 c1 : Value} (hlo : lo ≤ wc.heap.size) (hr : w.heap[xb]? = some (.cells #[c0, c1] 26 (0, 0))) (hle : lo ≤ xb) (hx : xb < wc.heap.size) (hb : Below lo w0 w) (hc : im.length ≤ vc ∧ vc ≤ maxLen ∧ l.length ≤ dc ∧ dc ≤ maxLen)
    (h1 : SlAt (encSl encSec) w (Nw wc.heap.size w.heap.size) B im) (h2 : SlAt encSnp w (Nw wc.heap.size w.heap.size) D l) :
    XRow lo w0 im l ((w.setCell ⟨xb, 0, none⟩ (.slice B im.length vc)).setCell ⟨xb, 1, none⟩ (.slice D l.length dc)) xb B vc D dc := by
  have hz : ((w.setCell ⟨xb, 0, none⟩ (.slice B im.length vc)).setCell ⟨xb, 1, none⟩ (.slice D l.length dc)).heap.size = w.heap.size := by simp [World.setCell]
  have hN : ∀ b, Nw wc.heap.size w.heap.size b → Nw lo ((w.setCell ⟨xb, 0, none⟩ (.slice B im.length vc)).setCell ⟨xb, 1, none⟩ (.slice D l.length dc)).heap.size b := fun b hb => by rw [hz]; exact hb.mono hlo (Nat.le_refl _)
  refine ⟨hle, (hb.setCell (p := ⟨xb, 0, none⟩) hle _).setCell (p := ⟨xb, 1, none⟩) hle _, blk2_set hr _ _, hc, (h1.set2 (fun g hg => by have := hg.1; omega) _ _).more hN, (h2.set2 (fun g hg => by have := hg.1; omega) _ _).more hN⟩
theorem XRow.mkAlloc (hlo : lo ≤ wc.heap.size) (hw : wc.heap.size ≤ w.heap.size) (hb : Below lo w0 w) (hc : im.length ≤ vc ∧ vc ≤ maxLen ∧ l.length ≤ dc ∧ dc ≤ maxLen)
    (h1 : SlAt (encSl encSec) w (Nw wc.heap.size w.heap.size) B im) (h2 : SlAt encSnp w (Nw wc.heap.size w.heap.size) D l) :
    XRow lo w0 im l (w.alloc (.cells #[.slice B im.length vc, .slice D l.length dc] 26)) w.heap.size B vc D dc := by
  have hN : ∀ b, Nw wc.heap.size w.heap.size b → Nw lo (w.alloc (.cells #[.slice B im.length vc, .slice D l.length dc] 26)).heap.size b := fun b hb => ⟨Nat.le_trans hlo hb.1, by have := hb.2; simp; omega⟩
  have hk : ∀ b, Nw wc.heap.size w.heap.size b → (w.alloc (.cells #[.slice B im.length vc, .slice D l.length dc] 26)).heap[b]? = w.heap[b]? := fun b hb => Below.heap_alloc _ _ _ hb.2
  exact ⟨Nat.le_trans hlo hw, hb.alloc (Nat.le_trans hlo hw) _, heap_alloc_new _ _, hc, (h1.blk hk).more hN, (h2.blk hk).more hN⟩
theorem XRow.fwd (h : XRow lo w0 im l w xb B vc D dc) (hlo : lo ≤ w.heap.size) {w' : World} (hb : Below w.heap.size w w') : XRow lo w0 im l w' xb B vc D dc := by
  have hN : ∀ b, Nw lo w.heap.size b → Nw lo w'.heap.size b := fun b hb' => hb'.mono (Nat.le_refl _) hb.size
  exact ⟨h.le, h.ext.trans (hb.mono hlo), (hb.block xb (Array.getElem?_eq_some_iff.1 h.row).1).trans h.row, h.cap, (h.cur.blk (fun b hb' => hb.block b hb'.2)).more hN, (h.its.blk (fun b hb' => hb.block b hb'.2)).more hN⟩
end
section
variable {lo rb sb : Nat} {w w' : World} {B D Bi A B' D' Bi' A5 : Option Addr} {vc dc vi ac vc' dc' vi' c5 n : Nat} {im im' : Img} {l l' : List Snp} {all all' : List Kpt}
/-- a step that stores new snapshots and a new image -/
theorem RunM.next {xb : Nat} (h : RunM lo rb sb w B vc D dc Bi vi A ac im l all) (hne : rb ≠ sb) (hlo : lo ≤ w.heap.size) (hx : XRow w.heap.size w im' l' w' xb B' vc' D' dc')
    (h3 : SlAt (encSl encSec) w' (Nw w.heap.size w'.heap.size) Bi' im') (hc : im'.length ≤ vi' ∧ vi' ≤ maxLen) :
    RunM lo rb sb ((w'.setCell ⟨sb, 0, none⟩ (.slice B' im'.length vc')).setCell ⟨sb, 1, none⟩ (.slice D' l'.length dc')) B' vc' D' dc' Bi' vi' A ac im' l' all :=
  (h.below hx.ext).store hne (hx.cur.more (fun _ hb => h.new hlo hb)) (hx.its.more (fun _ hb => h.new hlo hb)) (h3.more (fun _ hb => h.new hlo hb)) ⟨hx.cap.1, hx.cap.2.1, hx.cap.2.2.1, hx.cap.2.2.2, hc.1, hc.2⟩
/-- a step that leaves the image -/
theorem RunM.next0 {xb : Nat} (h : RunM lo rb sb w B vc D dc Bi vi A ac im l all) (hne : rb ≠ sb) (hlo : lo ≤ w.heap.size) (hx : XRow w.heap.size w im l' w' xb B' vc' D' dc') :
    RunM lo rb sb ((w'.setCell ⟨sb, 0, none⟩ (.slice B' im.length vc')).setCell ⟨sb, 1, none⟩ (.slice D' l'.length dc')) B' vc' D' dc' Bi vi A ac im l' all :=
  (h.below hx.ext).store hne (hx.cur.more (fun _ hb => h.new hlo hb)) (hx.its.more (fun _ hb => h.new hlo hb)) (h.below hx.ext).imv ⟨hx.cap.1, hx.cap.2.1, hx.cap.2.2.1, hx.cap.2.2.2, h.cap.2.2.2.2⟩
/-- a step that takes an image that was there -/
theorem RunM.nextOld {xb : Nat} (h : RunM lo rb sb w B vc D dc Bi vi A ac im l all) (hne : rb ≠ sb) (hlo : lo ≤ w.heap.size) (hx : XRow w.heap.size w im' l' w' xb B' vc' D' dc')
    (h3 : SlAt (encSl encSec) w (RunP lo rb sb w (.slice A all.length ac)) Bi' im') (hc : im'.length ≤ vi' ∧ vi' ≤ maxLen) :
    RunM lo rb sb ((w'.setCell ⟨sb, 0, none⟩ (.slice B' im'.length vc')).setCell ⟨sb, 1, none⟩ (.slice D' l'.length dc')) B' vc' D' dc' Bi' vi' A ac im' l' all :=
  (h.below hx.ext).store hne (hx.cur.more (fun _ hb => h.new hlo hb)) (hx.its.more (fun _ hb => h.new hlo hb)) ((h3.blk (fun b hb => hx.ext.block b hb.1.2)).more (RunP.up hx.ext.size)) ⟨hx.cap.1, hx.cap.2.1, hx.cap.2.2.1, hx.cap.2.2.2, hc.1, hc.2⟩
/-- the list of what is remembered has grown -/
theorem RunM.app {tmp : Obj} {x : Kpt} (h : RunM lo rb sb w B vc D dc Bi vi A ac im l all) (hn : all.length = n)
    (hown : Own encK w' lo 45 (fun g => Nw lo (w.alloc tmp).heap.size g ∧ ¬ (g = rb ∨ g = sb) ∧ (Value.slice A n ac).ownBlock ≠ some g) (.slice A5 (n + 1) c5) (all ++ [x])) (hg : (w.alloc tmp).grownBy w' (Value.slice A n ac).ownBlock)
    (hat : (Value.slice A5 (n + 1) c5).ownBlock = (Value.slice A n ac).ownBlock ∨ (Value.slice A5 (n + 1) c5).ownBlock = some (w.alloc tmp).heap.size) : RunM lo rb sb w' B vc D dc Bi vi A5 c5 im l (all ++ [x]) := by
  subst hn
  have h1 := h.below (ext_alloc (o := tmp) (Below.refl w.heap.size w))
  have hlt := h1.lt
  have hsb : (Value.slice A all.length ac).ownBlock ≠ some sb := fun e => h1.own.2 sb e (Or.inr rfl)
  have hrb : (Value.slice A all.length ac).ownBlock ≠ some rb := fun e => h1.own.2 rb e (Or.inl rfl)
  have hP : ∀ b, RunP lo rb sb (w.alloc tmp) (.slice A all.length ac) b → RunP lo rb sb w' (.slice A5 (all ++ [x]).length c5) b := fun b hb => by
    refine ⟨hb.1.mono (Nat.le_refl _) hg.size, hb.2.1, fun e => ?_⟩
    rw [List.length_append, List.length_singleton] at e
    rcases hat with hat | hat
    · exact hb.2.2 (by rw [← hat]; exact e)
    · rw [hat] at e; injection e with e; have := hb.1.2; omega
  have hk : ∀ b, RunP lo rb sb (w.alloc tmp) (.slice A all.length ac) b → w'.heap[b]? = (w.alloc tmp).heap[b]? := fun b hb => hg.block b hb.1.2 (fun e => hb.2.2 e.symm)
  refine ⟨(hg.block sb hlt.1 (fun e => hsb e.symm)).trans h1.row, (hg.block rb hlt.2 (fun e => hrb e.symm)).trans h1.res, ?_, (h1.cur.blk hk).more hP, (h1.its.blk hk).more hP, (h1.imv.blk hk).more hP, h.cap⟩
  have := h1.own.app hown hg hat (fun g hg' => by rcases hg' with rfl | rfl; exact hlt.2; exact hlt.1)
  rw [List.length_append, List.length_singleton]
  exact this
/-- what is remembered lies in a new block -/
theorem RunM.fresh (h : RunM lo rb sb w B vc D dc Bi vi A ac im l all) (hlo : lo ≤ w.heap.size) (hb : Below w.heap.size w w') (hn : all'.length = n)
    (hown : Own encK w' w.heap.size 45 (fun g => Nw lo w.heap.size g ∧ ¬ (g = rb ∨ g = sb)) (.slice A5 n c5) all') : RunM lo rb sb w' B vc D dc Bi vi A5 c5 im l all' := by
  subst hn
  have h1 := h.below hb
  have hlt := h.lt
  have hl := hown.lt
  have hP : ∀ b, RunP lo rb sb w (.slice A all.length ac) b → RunP lo rb sb w' (.slice A5 all'.length c5) b := fun b hb' =>
    ⟨hb'.1.mono (Nat.le_refl _) hb.size, hb'.2.1, fun e => by have := (hl b e).1; have := hb'.1.2; omega⟩
  refine ⟨h1.row, h1.res, ?_, (h.cur.blk (fun b hb' => hb.block b hb'.1.2)).more hP, (h.its.blk (fun b hb' => hb.block b hb'.1.2)).more hP, (h.imv.blk (fun b hb' => hb.block b hb'.1.2)).more hP, h.cap⟩
  have hX : ∀ g, (Value.slice A5 all'.length c5).ownBlock = some g → ¬ (g = rb ∨ g = sb) := fun g e hx => by
    have := (hl g e).1
    rcases hx with rfl | rfl
    · omega
    · omega
  obtain ⟨css, ⟨k0, k1⟩, k2, k3⟩ := hown
  refine ⟨Own.more (S := fun g => Nw lo w.heap.size g ∧ ¬ (g = rb ∨ g = sb)) ⟨css, ⟨k0, ?_⟩, k2, k3⟩ (fun g hg => ⟨hg.1.mono (Nat.le_refl _) hb.size, hg.2, fun e => by have := (hl g e).1; have := hg.1.2; omega⟩) (fun g hg hS => hS.2.2 hg), hX⟩
  rcases k1 with k1 | ⟨g, cap, cur, e1, hg, r⟩
  · exact Or.inl k1
  · exact Or.inr ⟨g, cap, cur, e1, Nat.le_trans hlo hg, r⟩
/-- the readings of what is remembered -/
theorem RunM.kept (h : RunM lo rb sb w B vc D dc Bi vi A ac im l all) : all.length ≤ ac ∧ ac ≤ maxLen ∧ SlAt encK w (fun g => Nw lo w.heap.size g ∧ ¬ (g = rb ∨ g = sb)) A all := by
  obtain ⟨_, h1, h2, h3⟩ := h.own.parts
  exact ⟨h1, h2, h3⟩
end
theorem kpt_cs {w : World} {S : Nat → Prop} {x : Kpt} {cs : List Value} (h : encK.rd w S cs x) : ∃ D c, cs = [.int .i64 x.1, .slice D x.2.1.length c, .int .i64 x.2.2] ∧ I64 x.1 ∧ I64 x.2.2 ∧ x.2.1.length ≤ c ∧ c ≤ maxLen ∧ SlAt (encSl encSec) w S D x.2.1 := by
  obtain ⟨c1, c2, rfl, ⟨rfl, h1⟩, ⟨c3, c4, rfl, ⟨D, c, rfl, h3, h4, h5⟩, ⟨rfl, h2⟩⟩⟩ := h
  exact ⟨D, c, rfl, h1, h2, h3, h4, h5⟩
theorem kpt_mk {w : World} {S : Nat → Prop} {x : Kpt} {D : Option Addr} {c : Nat} (h1 : I64 x.1) (h2 : I64 x.2.2) (h3 : x.2.1.length ≤ c) (h4 : c ≤ maxLen) (h5 : SlAt (encSl encSec) w S D x.2.1) : encK.rd w S [.int .i64 x.1, .slice D x.2.1.length c, .int .i64 x.2.2] x :=
  ⟨[_], [_, _], rfl, ⟨rfl, h1⟩, ⟨[_], [_], rfl, ⟨D, c, rfl, h3, h4, h5⟩, ⟨rfl, h2⟩⟩⟩
theorem SlAt.kpt {w : World} {S : Nat → Prop} {A : Option Addr} {l : List Kpt} {k : Nat} (h : SlAt encK w S A l) (hk : k < l.length) :
    ∃ b off D c, A = some ⟨b, off, none⟩ ∧ S b ∧
      w.cell? ⟨b, off + k * 3, none⟩ = some (.int .i64 l[k].1) ∧ w.cell? ⟨b, off + k * 3 + 1, none⟩ = some (.slice D l[k].2.1.length c) ∧ w.cell? ⟨b, off + k * 3 + 2, none⟩ = some (.int .i64 l[k].2.2) ∧
      SlAt (encSl encSec) w S D l[k].2.1 ∧ l[k].2.1.length ≤ c ∧ c ≤ maxLen ∧ I64 l[k].1 ∧ I64 l[k].2.2 := by
  obtain ⟨b, off, cs, e, hb, hs, hr⟩ := h.at_ hk
  obtain ⟨D, c, rfl, h1, h2, h3, h4, h5⟩ := kpt_cs hr
  exact ⟨b, off, D, c, e, hb, hs 0 _ rfl, hs 1 _ rfl, hs 2 _ rfl, h5, h3, h4, h1, h2⟩
theorem tyK : SliceTy Try.prog 38 45 3 40 := sliceTy_mk (z := .agg #[.int .i64 0, .slice none 0 0, .int .i64 0]) Try.underlying38 (by kernel_rfl) rfl (by decide)
theorem eraseIdx_eq {α : Type} (l : List α) (j : Nat) : l.eraseIdx j = l.take j ++ l.drop (j + 1) := by
  induction l generalizing j with
  | nil => simp
  | cons x l ih => cases j with
    | zero => rfl
    | succ j => simp [ih]
theorem RunM.keptImg {lo rb sb jj : Nat} {w : World} {B D Bi A : Option Addr} {vc dc vi ac : Nat} {im : Img} {l : List Snp} {all : List Kpt} (h : RunM lo rb sb w B vc D dc Bi vi A ac im l all) (hj : jj < all.length) :
    ∃ ga offa Dk ck, A = some ⟨ga, offa, none⟩ ∧ (Nw lo w.heap.size ga ∧ ¬ (ga = rb ∨ ga = sb)) ∧ w.cell? ⟨ga, offa + jj * 3, none⟩ = some (.int .i64 all[jj].1) ∧ w.cell? ⟨ga, offa + jj * 3 + 1, none⟩ = some (.slice Dk all[jj].2.1.length ck) ∧
      SlAt (encSl encSec) w (RunP lo rb sb w (.slice A all.length ac)) Dk all[jj].2.1 ∧ all[jj].2.1.length ≤ ck ∧ ck ≤ maxLen := by
  obtain ⟨g, cs, rfl, h1, h2, h3, h4, _, h5⟩ := h.own.1.elem hj
  obtain ⟨Dk, ck, rfl, _, _, k3, k4, k5⟩ := kpt_cs h5
  refine ⟨g, 0, Dk, ck, rfl, ⟨⟨h1, h2⟩, h.own.2 g rfl⟩, ?_, ?_, k5, k3, k4⟩
  · have := h4 0 _ rfl
    rw [Nat.zero_add]; exact this
  · have := h4 1 _ rfl
    rw [Nat.zero_add]; exact this
end Go.Proofs.Ytgmeghandjkkcaa
