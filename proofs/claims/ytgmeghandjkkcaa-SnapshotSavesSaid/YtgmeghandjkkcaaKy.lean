/-
  The examples of the chapter: plain facts, and how the variables read.
-/
import Derived.Test.YtgmeghandjkkcaaKx
import Derived.Deep.DeepCutAuto
set_option linter.unusedVariables false
set_option linter.unusedSimpArgs false
set_option linter.unusedSectionVars false
set_option linter.unnecessarySimpa false
namespace Go.Proofs.Ytgmeghandjkkcaa
open Go.RowKit Go.Shelf
attribute [local go_sem] Oper.semAt_some

instance decWr : DecidableEq Wr := inferInstanceAs (DecidableEq (Int × Int × List Sec))
instance decWrs : DecidableEq (List Wr) := inferInstance
instance decIW : DecidableEq (Int × List Wr) := inferInstance
instance : DecidableEq Snp := inferInstanceAs (DecidableEq (Int × (Int × List Wr)))
instance : DecidableEq Sns := inferInstanceAs (DecidableEq (Img × List Snp))
def imgB (l : List Int) : Img := [l.map sB]
def wrB (s : Int) (l : List Int) : Wr := (0, s, l.map sB)
def aw1 : Sns := (imgB [0, 0, 0, 0], [])
def aw2 : Sns := (imgB [97, 0, 0, 0], [])
def aw3 : Sns := (imgB [97, 0, 0, 0], [(1, 5, [])])
def aw4 : Sns := (imgB [98, 98, 0, 0], [(1, 5, [wrB 0 [97, 0]])])
def aw5 : Sns := (imgB [98, 98, 0, 0], [(1, 5, [wrB 0 [97, 0]]), (2, 6, [])])
def aw6 : Sns := (imgB [98, 99, 0, 0], [(1, 5, [wrB 0 [97, 0]]), (2, 6, [wrB 1 [98]])])
def aw7 : Sns := (imgB [98, 99, 0, 0], [(1, 5, [wrB 0 [97, 0]])])
theorem aw_1 : newS (imgB [0, 0, 0, 0]) = aw1 ∧ sizesN (lens (imgB [0, 0, 0, 0])) = 0 := by decide +kernel
theorem aw_2 : sApply aw1 [wrB 0 [97]] = aw2 ∧ sApplyE aw1 [wrB 0 [97]] = 0 := by decide +kernel
theorem aw_3 : takeS aw2 1 5 = aw3 ∧ takeE aw2 1 5 = 0 := by decide +kernel
theorem aw_4 : sApply aw3 [wrB 0 [98, 98]] = aw4 ∧ sApplyE aw3 [wrB 0 [98, 98]] = 0 := by decide +kernel
theorem aw_5 : takeS aw4 2 6 = aw5 ∧ takeE aw4 2 6 = 0 := by decide +kernel
theorem aw_6 : sApply aw5 [wrB 1 [99]] = aw6 ∧ sApplyE aw5 [wrB 1 [99]] = 0 := by decide +kernel
theorem aw_7 : sDelete aw6 2 = aw7 ∧ findE aw6 2 = 0 := by decide +kernel
theorem aw_c : sCost aw6 = 3 ∧ sCost aw7 = 2 := by decide +kernel
theorem aw_i : (sImage aw6 1 = imgB [97, 0, 0, 0] ∧ findE aw6 1 = 0) ∧ sImage aw6 2 = imgB [98, 98, 0, 0] := by decide +kernel
theorem aw_few : fewS aw1 = true ∧ fewS aw2 = true ∧ fewS aw3 = true ∧ fewS aw4 = true ∧ fewS aw5 = true ∧ fewS aw6 = true ∧ fewS aw7 = true := by decide +kernel
theorem few_sav {im : Img} {l : List Snp} (h : fewS (im, l) = true) : ∀ x ∈ l, x.2.2.length ≤ 1000 := by
  intro x hx
  unfold fewS at h
  rw [Bool.and_eq_true, List.all_eq_true] at h
  have := h.1 x hx
  unfold fewL at this
  rw [Bool.and_eq_true, decide_eq_true_eq] at this
  omega
theorem litS {α : Type} {E : Enc α} {W : World} {S S0 : Nat → Prop} {g : Nat} {T : TypeId} {cs : Array Value} {css : List (List Value)} {l : List α} (hg : W.heap[g]? = some (.cells cs T (0, 0))) (hcs : cs = css.flatten.toArray) (hr : All2 (E.rd W S0) css l) (h0 : ∀ b, S0 b → S b) (h1 : S g) (hn : ¬ S0 g) : SlAt E W S (some ⟨g, 0, none⟩) l := by
  have hsz := All2.sizes hr
  have hlen : css.flatten.length = l.length * E.size := by rw [flatten_len E.size css hsz, hr.length]
  intro hne
  refine ⟨g, 0, rfl, h1, fun i x hx => ?_⟩
  obtain ⟨cs', hc, hr'⟩ := hr.get hx
  refine ⟨cs', fun j u hu => ?_, Enc.more hr' h0⟩
  have hj : j < cs'.length := (List.getElem?_eq_some_iff.1 hu).1
  have hf := flatten_at _ _ _ _ _ _ hsz hc hu
  rw [cell_of_row _ _ _ _ _ _ hg, hcs]
  simp only [List.getElem?_toArray]
  have e : 0 + i * E.size + j = i * E.size + j := by omega
  rw [e]
  exact hf
theorem sB_all {w : World} : ∀ {l : List Int}, (∀ x ∈ l, 0 ≤ x ∧ x < 256) → All2 (encSec.rd w (fun _ => False)) ((l.map sB).map secV) (l.map sB)
  | [], _ => trivial
  | x :: l, h => ⟨⟨rfl, sB_ok (h x (by simp))⟩, sB_all (l := l) (fun y hy => h y (by simp [hy]))⟩
/-- an image of one volume, written out -/
theorem litImg {W : World} {g1 g2 : Nat} {T1 T2 : TypeId} {l : List Int} {n c : Nat} {cs : Array Value} (h1 : W.heap[g1]? = some (.cells cs T1 (0, 0))) (hcs : cs = ((l.map sB).map secV).flatten.toArray) (hr : ∀ x ∈ l, 0 ≤ x ∧ x < 256) (h2 : W.heap[g2]? = some (.cells #[.slice (some ⟨g1, 0, none⟩) n c] T2 (0, 0))) (hn : l.length = n) (hc : n ≤ c ∧ c ≤ maxLen) (hg : g1 ≠ g2) : SlAt (encSl encSec) W (fun g => g = g1 ∨ g = g2) (some ⟨g2, 0, none⟩) (imgB l) := by
  subst hn
  have k1 : SlAt encSec W (fun g => g = g1) (some ⟨g1, 0, none⟩) (l.map sB) := litS (S0 := fun _ => False) h1 hcs (sB_all hr) (fun _ h => h.elim) rfl (fun h => h)
  exact litS (S0 := fun g => g = g1) (css := [[.slice (some ⟨g1, 0, none⟩) l.length c]]) h2 rfl ⟨⟨_, c, by simp, by simpa using hc.1, hc.2, k1⟩, trivial⟩ (fun g hg => Or.inl hg) (Or.inr rfl) (fun e => hg e.symm)
theorem bytes_lit {w : World} {b : Nat} {T : TypeId} {bs : List Int} {cs : Array Value} (hb : w.heap[b]? = some (.cells cs T (0, 0))) (hcs : cs = (bs.map (Value.int .u8)).toArray) (hB : ∀ x ∈ bs, 0 ≤ x ∧ x < 256) : BytesAt (some ⟨b, 0, none⟩) bs w w.heap.size := fun k hk => by
  refine ⟨b, 0, rfl, (Array.getElem?_eq_some_iff.1 hb).1, ?_, hB _ (List.getElem_mem hk)⟩
  rw [cell_of_row _ _ _ _ _ _ hb, hcs]
  simp [hk]
/-- the variable s of the examples: its block, and what it reads -/
def AwI (t : Nat) (B : Option Addr) (vc : Nat) (D : Option Addr) (dc n m : Nat) (s : Sns) (W : World) : Prop :=
  W.heap[t]? = some (.cells #[.slice B n vc, .slice D m dc] 26 (0, 0)) ∧ (s.1.length = n ∧ s.2.length = m) ∧ m ≤ dc ∧ SlAt (encSl encSec) W (fun g => g ≠ t ∧ g < W.heap.size) B s.1 ∧ SlAt encSnp W (fun g => g ≠ t ∧ g < W.heap.size) D s.2
section
variable {t : Nat} {B D : Option Addr} {vc dc n m : Nat} {s : Sns} {W W' : World}
theorem AwI.lt (h : AwI t B vc D dc n m s W) : t < W.heap.size := (Array.getElem?_eq_some_iff.1 h.1).1
theorem AwI.below (h : AwI t B vc D dc n m s W) (hb : Below W.heap.size W W') : AwI t B vc D dc n m s W' := by
  have hl := h.lt
  obtain ⟨h1, h2, h3, h4, h5⟩ := h
  have hs := hb.size
  exact ⟨(hb.block t hl).trans h1, h2, h3, (h4.blk (fun g hg => hb.block g hg.2)).more (fun g hg => ⟨hg.1, by omega⟩), (h5.blk (fun g hg => hb.block g hg.2)).more (fun g hg => ⟨hg.1, by omega⟩)⟩
theorem AwI.img (h : AwI t B vc D dc n m s W) : SlAt (encSl encSec) W (Bl W.heap.size) B s.1 := h.2.2.2.1.more (fun g hg => hg.2)
theorem AwI.its (h : AwI t B vc D dc n m s W) : SlAt encSnp W (Bl W.heap.size) D s.2 := h.2.2.2.2.more (fun g hg => hg.2)
/-- the variable has been stored anew -/
theorem AwI.store {lo mid : Nat} {u0 u1 : Value} (h : SnRet s.1 s.2 B vc D dc mid lo W) (hr : W.heap[t]? = some (.cells #[u0, u1] 26 (0, 0))) (hlo : t < lo) (hn : s.1.length = n ∧ s.2.length = m) : AwI t B vc D dc n m s ((W.setCell ⟨t, 0, none⟩ (.slice B n vc)).setCell ⟨t, 1, none⟩ (.slice D m dc)) := by
  have hr2 := blk2_set hr (.slice B n vc) (.slice D m dc)
  have h2 := (h.set (p := ⟨t, 0, none⟩) hlo (.slice B n vc)).set (p := ⟨t, 1, none⟩) hlo (.slice D m dc)
  obtain ⟨⟨a1, a2, a3⟩, b1, b2, b3⟩ := h2.read
  exact ⟨hr2, hn, by rw [← hn.2]; exact b1, a3.more (fun g hg => ⟨by have := hg.1; omega, hg.2⟩), b3.more (fun g hg => ⟨by have := hg.1; omega, hg.2⟩)⟩
/-- the variable has been made -/
theorem AwI.made {lo mid : Nat} (h : SnRet s.1 s.2 B vc D dc mid lo W) (hn : s.1.length = n ∧ s.2.length = m) (hlo : lo ≤ W.heap.size) : AwI W.heap.size B vc D dc n m s (W.alloc (.cells #[.slice B n vc, .slice D m dc] 26)) := by
  have hb : Below W.heap.size W (W.alloc (.cells #[.slice B n vc, .slice D m dc] 26)) := ext_alloc (Below.refl _ _)
  obtain ⟨⟨a1, a2, a3⟩, b1, b2, b3⟩ := h.read
  exact ⟨heap_alloc_new _ _, hn, by rw [← hn.2]; exact b1, (a3.blk (fun g hg => hb.block g hg.2)).more (fun g hg => ⟨by have := hg.2; omega, by have := hg.2; have := hb.size; omega⟩), (b3.blk (fun g hg => hb.block g hg.2)).more (fun g hg => ⟨by have := hg.2; omega, by have := hg.2; have := hb.size; omega⟩)⟩
end
/-- what Apply, Take, Delete give in the examples -/
def AwR (s : Sns) (n m : Nat) (w : World) (e : Ending) (w' : World) : Prop :=
  ∃ B vc D dc mid, e = .returned (.tuple #[.agg #[.slice B n vc, .slice D m dc], .int .i64 0]) ∧ (s.1.length = n ∧ s.2.length = m) ∧ SnRet s.1 s.2 B vc D dc mid w.heap.size w' ∧ Below w.heap.size w w'
theorem AwR.of {s s' : Sns} {x : Int} {n m : Nat} {w w' : World} {e : Ending} (h : SnRetE s x w e w') (hs : s = s') (hx : x = 0) (hn : s'.1.length = n ∧ s'.2.length = m) : AwR s' n m w e w' := by
  obtain ⟨B, vc, D, dc, mid, he, h1, h2⟩ := h
  subst hs hx
  refine ⟨B, vc, D, dc, mid, ?_, hn, h1, h2⟩
  rw [he, hn.1, hn.2]
section
variable {t : Nat} {B D : Option Addr} {vc dc n m n' m' : Nat} {s s' : Sns} {W : World}
theorem awApply (h : AwI t B vc D dc n m s W) {D3 : Option Addr} {c3 : Nat} {x : Wr} (hw : SlAt encWr W (Bl W.heap.size) D3 [x]) (hf : fewS s = true) (ha : sApply s [x] = s' ∧ sApplyE s [x] = 0) (hn : s'.1.length = n' ∧ s'.2.length = m') :
    Calls Try.prog 23 #[.agg #[.slice B n vc, .slice D m dc], .slice D3 1 c3] W (AwR s' n' m' W) := by
  obtain ⟨im, l⟩ := s
  exact (snApply_any B D D3 vc dc c3 n m 1 im l [x] W h.2.1.1 h.2.1.2 rfl h.img h.its hw (fewS_lim hf).1 (by omega) (fun y hy => by have := few_sav hf y hy; omega)).mono fun e w' he => AwR.of he ha.1 ha.2 hn
theorem awTake (h : AwI t B vc D dc n m s W) {num tm : Int} (hi : I64 num ∧ I64 tm) (hf : fewS s = true) (ha : takeS s num tm = s' ∧ takeE s num tm = 0) (hn : s'.1.length = n' ∧ s'.2.length = m') :
    Calls Try.prog 25 #[.agg #[.slice B n vc, .slice D m dc], .int .i64 num, .int .i64 tm] W (AwR s' n' m' W) := by
  obtain ⟨im, l⟩ := s
  exact (snTake_any B D vc dc n m im l num tm W h.2.1.1 h.2.1.2 h.img h.its (fewS_lim hf).1 hi).mono fun e w' he => AwR.of he ha.1 ha.2 hn
theorem awDelete (h : AwI t B vc D dc n m s W) {num : Int} (hf : fewS s = true) (ha : sDelete s num = s' ∧ findE s num = 0) (hn : s'.1.length = n' ∧ s'.2.length = m') :
    Calls Try.prog 27 #[.agg #[.slice B n vc, .slice D m dc], .int .i64 num] W (AwR s' n' m' W) := by
  obtain ⟨im, l⟩ := s
  exact (snDelete_any B D vc dc n m im l num W h.2.1.1 h.2.1.2 h.img h.its (fewS_lim hf).1 (fun y hy => by have := few_sav hf y hy; omega)).mono fun e w' he => AwR.of he ha.1 ha.2 hn
theorem awCost (h : AwI t B vc D dc n m s W) (hf : fewS s = true) {q : Nat} (ha : sCost s = q) :
    Calls Try.prog 14 #[.agg #[.slice B n vc, .slice D m dc]] W fun e w' => e = .returned (.int .i64 q) ∧ Below W.heap.size W w' := by
  obtain ⟨im, l⟩ := s
  subst ha
  exact snCost_any B D vc dc n m im l W h.2.1.1 h.2.1.2 h.img h.its (fewS_lim hf).1
theorem awImage (h : AwI t B vc D dc n m s W) (hf : fewS s = true) {num : Int} {r : Img} {k : Nat} (ha : sImage s num = r ∧ findE s num = 0) (hk : r.length = k) :
    Calls Try.prog 18 #[.agg #[.slice B n vc, .slice D m dc], .int .i64 num] W fun e w' => ∃ A c, e = .returned (.tuple #[.slice A k c, .int .i64 0]) ∧ SlAt (encSl encSec) w' (Nw W.heap.size w'.heap.size) A r ∧ Below W.heap.size W w' := by
  obtain ⟨im, l⟩ := s
  subst hk
  refine (snImage_any B D vc dc n m im l num W h.2.1.1 h.2.1.2 h.img h.its (fewS_lim hf).1 h.2.2.1 r ha.1 0 ha.2).mono ?_
  rintro e w' ⟨A, c, he, _, _, h3, h4⟩
  exact ⟨A, c, he, h3, h4⟩
theorem awWrite {b : Nat} {T : TypeId} {bs : List Int} {cs : Array Value} {k : Nat} (st : Int) (hb : W.heap[b]? = some (.cells cs T (0, 0))) (hcs : cs = (bs.map (Value.int .u8)).toArray) (hB : ∀ x ∈ bs, 0 ≤ x ∧ x < 256) (hk : bs.length = k) (hk2 : k ≤ 1000) (hs : I64 st) {c : Nat} :
    Calls Try.prog 24 #[.int .i64 st, .slice (some ⟨b, 0, none⟩) k c] W fun e w' => ∃ D, e = .returned (.slice D 1 1) ∧ SlAt encWr w' (Nw W.heap.size w'.heap.size) D [wrB st bs] ∧ Below W.heap.size W w' :=
  write36_any (some ⟨b, 0, none⟩) k c st bs W hk hs (bytes_lit hb hcs hB) hk2
end
end Go.Proofs.Ytgmeghandjkkcaa
