/-
  A run of steps over snapshots: the memory of its state; plain words.
-/
import Derived.Test.YtgmeghandjkkcaaDa
import Derived.Test.YtgmeghandjkkcaaSn6
import Derived.Test.YtgmeghandjkkcaaIm
set_option linter.unusedVariables false
set_option linter.unusedSimpArgs false
set_option linter.unusedSectionVars false
set_option linter.unnecessarySimpa false
namespace Go.Proofs.Ytgmeghandjkkcaa
open Go.RowKit Go.Shelf
attribute [local go_sem] Oper.semAt_some

abbrev Run := Img × List Snp × List Kpt
def stJ (x : Stp) (n : Nat) : Nat := (x.2.2.2.2 % (n : Int)).toNat
/-- a step of a run -/
def runS (k : Nat) (x : Stp) (t : Run) : Run :=
  if x.1 % 8 < 4 then (putAll t.1 [dataW x], setLast t.2.1 (fun d => foldL (contL t.1 [dataW x] ++ d)), t.2.2)
  else if x.1 % 8 < 6 then (t.1, t.2.1 ++ [((10 + k : Int), (k : Int), [])], t.2.2 ++ [((10 + k : Int), t.1, (k : Int))])
  else if h : t.2.2.length = 0 then t
  else if x.1 % 8 = 6 then (t.1, delL t.2.1 (stJ x t.2.2.length), t.2.2.eraseIdx (stJ x t.2.2.length))
  else ((t.2.2.getD (stJ x t.2.2.length) (0, [], 0)).2.1, setLast (t.2.1.take (stJ x t.2.2.length + 1)) (fun _ => []), t.2.2.take (stJ x t.2.2.length + 1))
def img0 : Img := [List.replicate 5 zsec, List.replicate 3 zsec]
def runT (xs : List Stp) : Nat → Run
  | 0 => (img0, [], [])
  | k + 1 => runS k (xs.getD k (0, 0, 0, 0, 0)) (runT xs k)
theorem stJ_lt {x : Stp} {n : Nat} (hn : 0 < n) : stJ x n < n := by
  unfold stJ
  have h1 := Int.emod_nonneg x.2.2.2.2 (show (n : Int) ≠ 0 by omega)
  have h2 := Int.emod_lt_of_pos x.2.2.2.2 (show (0 : Int) < n by omega)
  omega
theorem RInv.step {k : Nat} {x : Stp} {t : Run} (h : RInv k t.1 t.2.1 t.2.2) (hx : OkStp x) (hk : k ≤ 100) : RInv (k + 1) (runS k x t).1 (runS k x t).2.1 (runS k x t).2.2 := by
  obtain ⟨im, l, all⟩ := t
  unfold runS
  by_cases c1 : x.1 % 8 < 4
  · rw [if_pos c1]
    exact (h.apply (ws := [dataW x]) (fun y hy => by rw [List.mem_singleton.1 hy]; exact data_fits x hx)).2.2
  · rw [if_neg c1]
    by_cases c2 : x.1 % 8 < 6
    · rw [if_pos c2]
      exact (h.take hk).2
    · rw [if_neg c2]
      by_cases c3 : all.length = 0
      · rw [dif_pos c3]
        exact ⟨h.lens, h.ok, h.ims, h.key, fun e he => by have := h.st e he; omega, by have := h.len; omega⟩
      · rw [dif_neg c3]
        have hj : stJ x all.length < all.length := stJ_lt (by omega)
        by_cases c4 : x.1 % 8 = 6
        · rw [if_pos c4]
          exact (h.delete hj).2.2.1
        · rw [if_neg c4]
          have := (h.revert hj).2.2.2
          have e : all.getD (stJ x all.length) (0, [], 0) = all[stJ x all.length] := by rw [List.getD_eq_getElem?_getD, List.getElem?_eq_getElem hj]; rfl
          show RInv (k + 1) (all.getD (stJ x all.length) (0, [], 0)).2.1 _ _
          rw [e]
          exact this
theorem runT_inv {xs : List Stp} (hx : ∀ x ∈ xs, OkStp x) : ∀ k, k ≤ xs.length → k ≤ 100 → RInv k (runT xs k).1 (runT xs k).2.1 (runT xs k).2.2
  | 0, _, _ => by
    show RInv 0 img0 [] []
    exact ⟨by decide, by decide +kernel, rfl, rfl, (fun e he => by cases he), Nat.le_refl _⟩
  | k + 1, h1, h2 => by
    have hk : k < xs.length := h1
    have e : xs.getD k (0, 0, 0, 0, 0) = xs[k] := by rw [List.getD_eq_getElem?_getD, List.getElem?_eq_getElem hk]; rfl
    show RInv (k + 1) (runS k (xs.getD k (0, 0, 0, 0, 0)) (runT xs k)).1 (runS k (xs.getD k (0, 0, 0, 0, 0)) (runT xs k)).2.1 (runS k (xs.getD k (0, 0, 0, 0, 0)) (runT xs k)).2.2
    rw [e]
    exact (runT_inv hx k (by omega) (by omega)).step (hx _ (List.getElem_mem hk)) (by omega)
theorem foldL_len (l : List Wr) : (foldL l).length ≤ 32768 := by
  unfold foldL; split
  · exact foldS_len l
  · simp
theorem mem_setLast {l : List Snp} {f : List Wr → List Wr} {x : Snp} (h : x ∈ setLast l f) : x ∈ l ∨ ∃ y ∈ l, x = (y.1, y.2.1, f y.2.2) := by
  rcases List.eq_nil_or_concat l with rfl | ⟨r, y, rfl⟩
  · rw [setLast_nil] at h; cases h
  · rw [List.concat_eq_append, setLast_snoc] at h
    rw [List.concat_eq_append]
    rcases List.mem_append.1 h with h | h
    · exact Or.inl (by simp [h])
    · exact Or.inr ⟨y, by simp, List.mem_singleton.1 h⟩
def Cap (l : List Snp) : Prop := ∀ x ∈ l, x.2.2.length ≤ 32768
theorem Cap.step {k : Nat} {x : Stp} {t : Run} (h : Cap t.2.1) : Cap (runS k x t).2.1 := by
  have hs : ∀ (l : List Snp) (f : List Wr → List Wr), Cap l → (∀ d, (f d).length ≤ 32768) → Cap (setLast l f) := fun l f hl hf y hy => by
    rcases mem_setLast hy with hy | ⟨z, hz, rfl⟩
    · exact hl y hy
    · exact hf _
  obtain ⟨im, l, all⟩ := t
  unfold runS
  split
  · exact hs l _ h (fun d => foldL_len _)
  · split
    · intro y hy
      rcases List.mem_append.1 hy with hy | hy
      · exact h y hy
      · rw [List.mem_singleton.1 hy]; simp
    · split
      · exact h
      · split
        · show Cap (delL l (stJ x all.length))
          cases stJ x all.length with
          | zero => exact fun y hy => h y (List.mem_of_mem_drop hy)
          | succ i =>
            intro y hy
            rcases List.mem_append.1 (show y ∈ setLast (l.take (i + 1)) (fun d => foldL ((l.getD (i + 1) (0, 0, [])).2.2 ++ d)) ++ l.drop (i + 2) from hy) with hy | hy
            · exact hs (l.take (i + 1)) _ (fun z hz => h z (List.mem_of_mem_take hz)) (fun d => foldL_len _) y hy
            · exact h y (List.mem_of_mem_drop hy)
        · show Cap (setLast (l.take (stJ x all.length + 1)) (fun _ => []))
          exact hs (l.take (stJ x all.length + 1)) (fun _ => []) (fun z hz => h z (List.mem_of_mem_take hz)) (fun d => Nat.zero_le _)
theorem runT_cap {xs : List Stp} : ∀ k, Cap (runT xs k).2.1
  | 0 => fun x hx => by cases hx
  | k + 1 => (runT_cap k).step
theorem RInv.lim {k : Nat} {im : Img} {l : List Snp} {all : List Kpt} (h : RInv k im l all) (hk : k ≤ 100) (hc : Cap l) : SnLim im l := by
  have h1 := congrArg List.length h.lens
  have h2 : im.length = 2 := by simpa [Proofs.Ytgmeghandjkkcaa.lens] using h1
  have hrow : ∀ r ∈ im, r.length ≤ 5 := fun r hr => by
    have : lenI r ∈ Proofs.Ytgmeghandjkkcaa.lens im := List.mem_map.2 ⟨r, hr, rfl⟩
    rw [h.lens] at this
    unfold lenI at this
    simp at this
    omega
  refine ⟨by omega, fun r hr => by have := hrow r hr; omega, by have := h.len2; have := h.len; omega, fun x hx => ⟨by have := hc x hx; omega, fun y hy => ?_⟩⟩
  have h3 := fits_ok (snE_ok h.ok).1 (h.fits x hx y hy)
  have := h3.2.2.2
  omega
def encStp : Enc Stp := encPair encU8 (encPair encU8 (encPair encU8 (encPair encU8 encU8)))
theorem SlAt.stp {w : World} {S : Nat → Prop} {A : Option Addr} {l : List Stp} {k : Nat} (h : SlAt encStp w S A l) (hk : k < l.length) :
    ∃ b off, A = some ⟨b, off, none⟩ ∧ S b ∧ w.cell? ⟨b, off + k * 5, none⟩ = some (.int .u8 l[k].1) ∧ w.cell? ⟨b, off + k * 5 + 1, none⟩ = some (.int .u8 l[k].2.1) ∧ w.cell? ⟨b, off + k * 5 + 2, none⟩ = some (.int .u8 l[k].2.2.1) ∧ w.cell? ⟨b, off + k * 5 + 3, none⟩ = some (.int .u8 l[k].2.2.2.1) ∧ w.cell? ⟨b, off + k * 5 + 4, none⟩ = some (.int .u8 l[k].2.2.2.2) ∧ OkStp l[k] := by
  obtain ⟨b, off, cs, e, hb, hs, hr⟩ := h.at_ hk
  obtain ⟨c1, _, rfl, ⟨rfl, h1⟩, c2, _, rfl, ⟨rfl, h2⟩, c3, _, rfl, ⟨rfl, h3⟩, c4, c5, rfl, ⟨rfl, h4⟩, ⟨rfl, h5⟩⟩ := hr
  exact ⟨b, off, e, hb, hs 0 _ rfl, hs 1 _ rfl, hs 2 _ rfl, hs 3 _ rfl, hs 4 _ rfl, h1, h2, h3, h4, h5⟩
def encK : Enc Kpt := encPair encInt (encPair (encSl (encSl encSec)) encInt)
/-- what the run may read besides its variables and the list that grows -/
def RunP (lo rb sb : Nat) (w : World) (v : Value) (b : Nat) : Prop := Nw lo w.heap.size b ∧ ¬ (b = rb ∨ b = sb) ∧ v.ownBlock ≠ some b
/-- the memory of a run's state -/
structure RunM (lo rb sb : Nat) (w : World) (B : Option Addr) (vc : Nat) (D : Option Addr) (dc : Nat) (Bi : Option Addr) (vi : Nat) (A : Option Addr) (ac : Nat) (im : Img) (l : List Snp) (all : List Kpt) : Prop where
  row : w.heap[sb]? = some (.cells #[.slice B im.length vc, .slice D l.length dc] 26 (0, 0))
  res : w.heap[rb]? = some (.cells #[.slice none 0 0, .slice none 0 0] 26 (0, 0))
  own : OwnX (fun b => b = rb ∨ b = sb) encK w lo 45 (.slice A all.length ac) all
  cur : SlAt (encSl encSec) w (RunP lo rb sb w (.slice A all.length ac)) B im
  its : SlAt encSnp w (RunP lo rb sb w (.slice A all.length ac)) D l
  imv : SlAt (encSl encSec) w (RunP lo rb sb w (.slice A all.length ac)) Bi im
  cap : im.length ≤ vc ∧ vc ≤ maxLen ∧ l.length ≤ dc ∧ dc ≤ maxLen ∧ im.length ≤ vi ∧ vi ≤ maxLen
section
variable {lo rb sb : Nat} {w w' : World} {B D Bi A : Option Addr} {vc dc vi ac : Nat} {im : Img} {l : List Snp} {all : List Kpt}
theorem RunM.lt (h : RunM lo rb sb w B vc D dc Bi vi A ac im l all) : sb < w.heap.size ∧ rb < w.heap.size := ⟨(Array.getElem?_eq_some_iff.1 h.row).1, (Array.getElem?_eq_some_iff.1 h.res).1⟩
theorem RunP.up {v : Value} (hs : w.heap.size ≤ w'.heap.size) : ∀ b, RunP lo rb sb w v b → RunP lo rb sb w' v b := fun b hb => ⟨⟨hb.1.1, by have := hb.1.2; omega⟩, hb.2⟩
theorem RunP.bl {v : Value} : ∀ b, RunP lo rb sb w v b → Bl w.heap.size b := fun b hb => hb.1.2
theorem RunM.below (h : RunM lo rb sb w B vc D dc Bi vi A ac im l all) (hb : Below w.heap.size w w') : RunM lo rb sb w' B vc D dc Bi vi A ac im l all :=
  ⟨(hb.block sb h.lt.1).trans h.row, (hb.block rb h.lt.2).trans h.res, h.own.below hb, (h.cur.blk (fun b hb' => hb.block b hb'.1.2)).more (RunP.up hb.size), (h.its.blk (fun b hb' => hb.block b hb'.1.2)).more (RunP.up hb.size), (h.imv.blk (fun b hb' => hb.block b hb'.1.2)).more (RunP.up hb.size), h.cap⟩
/-- the variable of the snapshots is stored, the image too -/
theorem RunM.store (h : RunM lo rb sb w B vc D dc Bi vi A ac im l all) (hne : rb ≠ sb) {B' D' Bi' : Option Addr} {vc' dc' vi' : Nat} {im' : Img} {l' : List Snp}
    (h1 : SlAt (encSl encSec) w (RunP lo rb sb w (.slice A all.length ac)) B' im') (h2 : SlAt encSnp w (RunP lo rb sb w (.slice A all.length ac)) D' l') (h3 : SlAt (encSl encSec) w (RunP lo rb sb w (.slice A all.length ac)) Bi' im')
    (hc : im'.length ≤ vc' ∧ vc' ≤ maxLen ∧ l'.length ≤ dc' ∧ dc' ≤ maxLen ∧ im'.length ≤ vi' ∧ vi' ≤ maxLen) :
    RunM lo rb sb ((w.setCell ⟨sb, 0, none⟩ (.slice B' im'.length vc')).setCell ⟨sb, 1, none⟩ (.slice D' l'.length dc')) B' vc' D' dc' Bi' vi' A ac im' l' all := by
  have hz : ((w.setCell ⟨sb, 0, none⟩ (.slice B' im'.length vc')).setCell ⟨sb, 1, none⟩ (.slice D' l'.length dc')).heap.size = w.heap.size := by simp [World.setCell]
  have hk : ∀ b, b ≠ sb → ((w.setCell ⟨sb, 0, none⟩ (.slice B' im'.length vc')).setCell ⟨sb, 1, none⟩ (.slice D' l'.length dc')).heap[b]? = w.heap[b]? := fun b hb => (heap_setCell_other _ ⟨sb, 1, none⟩ b _ hb).trans (heap_setCell_other _ ⟨sb, 0, none⟩ b _ hb)
  have hP : ∀ b, RunP lo rb sb w (.slice A all.length ac) b → RunP lo rb sb ((w.setCell ⟨sb, 0, none⟩ (.slice B' im'.length vc')).setCell ⟨sb, 1, none⟩ (.slice D' l'.length dc')) (.slice A all.length ac) b := fun b hb => ⟨by rw [hz]; exact hb.1, hb.2⟩
  exact ⟨blk2_set h.row _ _, (hk rb hne).trans h.res, (h.own.set (p := ⟨sb, 0, none⟩) (Or.inr rfl) _).set (p := ⟨sb, 1, none⟩) (Or.inr rfl) _, (h1.blk (fun b hb => hk b (fun e => hb.2.1 (Or.inr e)))).more hP, (h2.blk (fun b hb => hk b (fun e => hb.2.1 (Or.inr e)))).more hP, (h3.blk (fun b hb => hk b (fun e => hb.2.1 (Or.inr e)))).more hP, hc⟩
/-- new memory is none of the variables, nor the list's -/
theorem RunM.new (h : RunM lo rb sb w B vc D dc Bi vi A ac im l all) (hlo : lo ≤ w.heap.size) {b : Nat} (hb : Nw w.heap.size w'.heap.size b) : RunP lo rb sb w' (.slice A all.length ac) b := by
  have hl := h.lt
  have h1 := hb.1
  exact ⟨⟨by omega, hb.2⟩, fun e => by omega, fun e => by have := (h.own.lt b e).2; omega⟩
end
end Go.Proofs.Ytgmeghandjkkcaa
