/-
  Images that a call owns: Clone of a row, copied.
  copied, and Apply, of images.
-/
import Derived.Test.YtnkmklnlaepdeaaGreatCp
import Derived.Test.YtnkmklnlaepdeaaGreatIa1
import Derived.Test.YtnkmklnlaepdeaaGreatIe
import Derived.RegionTactic
import Derived.BigRegion
import Derived.Deep.RegionLaw
set_option linter.unusedVariables false
set_option linter.unusedSimpArgs false
set_option linter.unusedSectionVars false
set_option linter.unnecessarySimpa false
namespace Go.Proofs.YtnkmklnlaepdeaaGreat
open Go.RowKit

/-- the slice of a row, as a datum: its block, its length, its capacity -/
def encBlk : Enc (Nat × Nat × Nat) where
  size := 1
  rd _ _ cs x := cs = [.slice (some ⟨x.1, 0, none⟩) x.2.1 x.2.2] ∧ x.2.1 ≤ x.2.2 ∧ x.2.2 ≤ maxLen
  len h := by rw [h.1]; rfl
  one h := by rw [h.1]; simp [Value.oneCell']
  keep h _ _ := h
def RowOf (w : World) (lo : Nat) (x : Nat × Nat × Nat) (row : List Sec) : Prop := Own encSec w lo 54 (fun _ => False) (.slice (some ⟨x.1, 0, none⟩) x.2.1 x.2.2) row
theorem RowOf.ty {w : World} {lo : Nat} {x : Nat × Nat × Nat} {row : List Sec} (h : RowOf w lo x row) : lo ≤ x.1 ∧ x.1 < w.heap.size ∧ x.2.1 = row.length ∧ row.length ≤ x.2.2 ∧ x.2.2 ≤ maxLen ∧ ∃ cs, w.heap[x.1]? = some (.cells cs 54 (0, 0)) := by
  obtain ⟨css, h1, _⟩ := h
  rcases h1.2 with ⟨he, _⟩ | ⟨g, cap, cur, he, hb, hh, hnc, hcm, _⟩
  · cases he
  · injection he with e1 e2 e3
    injection e1 with e1
    injection e1 with e1
    exact ⟨by omega, by rw [e1]; exact (Array.getElem?_eq_some_iff.1 hh).1, e2, by omega, by omega, cur, by rw [e1]; exact hh⟩
theorem RowOf.blk {w w' : World} {lo : Nat} {x : Nat × Nat × Nat} {row : List Sec} (h : RowOf w lo x row) (hk : w'.heap[x.1]? = w.heap[x.1]?) : RowOf w' lo x row :=
  Own.blk h (fun b hb => by
    rcases hb with hb | hb
    · exact hb.elim
    · have : x.1 = b := by simpa [Value.ownBlock] using hb
      rw [← this]; exact hk)
theorem RowOf.base {w : World} {lo lo' : Nat} {x : Nat × Nat × Nat} {row : List Sec} (h : RowOf w lo x row) (hl : lo' ≤ lo) : RowOf w lo' x row := by
  obtain ⟨css, ⟨h1, h2⟩, h3, h4⟩ := h
  refine ⟨css, ⟨h1, ?_⟩, h3, h4⟩
  rcases h2 with h2 | ⟨g, cap, cur, he, hb, r⟩
  · exact Or.inl h2
  · exact Or.inr ⟨g, cap, cur, he, Nat.le_trans hl hb, r⟩
theorem RowOf.rd {w : World} {lo : Nat} {x : Nat × Nat × Nat} {row : List Sec} (h : RowOf w lo x row) : SlAt encSec w (Nw lo w.heap.size) (some ⟨x.1, 0, none⟩) row := by
  obtain ⟨A', c', he, _, _, h3⟩ := Own.rd h (fun _ h => h.elim)
  simp only [List.cons.injEq, Value.slice.injEq, and_true] at he
  obtain ⟨rfl, _, _⟩ := he
  exact h3
/-- an image that a call owns -/
structure ImgOwn (w : World) (lo : Nat) (A : Option Addr) (c : Nat) (xs : List (Nat × Nat × Nat)) (im : List (List Sec)) : Prop where
  outer : Own encBlk w lo 55 (fun _ => False) (.slice A xs.length c) xs
  len : xs.length = im.length
  rows : ∀ (k : Nat) (h1 : k < xs.length) (h2 : k < im.length), RowOf w lo xs[k] im[k]
  apart : (xs.map (·.1)).Nodup
section
variable {w w' : World} {lo : Nat} {A : Option Addr} {c : Nat} {xs : List (Nat × Nat × Nat)} {im : List (List Sec)}
theorem ImgOwn.nil_ {cur : Array Value} {cap : Nat} (hb : lo ≤ w.heap.size) (hm : cap ≤ maxLen) (hs : cur.size = cap) : ImgOwn (w.alloc (.cells cur 55)) lo (some ⟨w.heap.size, 0, none⟩) cap [] [] :=
  ⟨Own.make0 hb hm (by simpa [encBlk] using hs) (fun h => h), rfl, fun _ h => by simp at h, List.nodup_nil⟩
theorem ImgOwn.below (h : ImgOwn w lo A c xs im) (hb : Below w.heap.size w w') : ImgOwn w' lo A c xs im :=
  ⟨Own.below h.outer hb (fun _ h => h.elim), h.len, fun k h1 h2 => (h.rows k h1 h2).blk (hb.block _ (h.rows k h1 h2).ty.2.1), h.apart⟩
theorem ImgOwn.reads (h : ImgOwn w lo A c xs im) : SlAt (encSl encSec) w (Nw lo w.heap.size) A im := fun hn => by
  obtain ⟨A', c', he, _, _, h3⟩ := Own.rd h.outer (fun _ h => h.elim)
  simp only [List.cons.injEq, Value.slice.injEq, and_true] at he
  obtain ⟨rfl, _, _⟩ := he
  have hx : xs ≠ [] := fun e => hn (List.eq_nil_of_length_eq_zero (by rw [← h.len, e]; rfl))
  obtain ⟨b, off, e, hb, hc⟩ := h3 hx
  refine ⟨b, off, e, hb, fun i row hi => ?_⟩
  have hi2 := (List.getElem?_eq_some_iff.1 hi).1
  have hi1 : i < xs.length := by rw [h.len]; exact hi2
  obtain ⟨cs, k1, rfl, k3, k4⟩ := hc i xs[i] (List.getElem?_eq_getElem hi1)
  have hr := h.rows i hi1 hi2
  have hrow : im[i] = row := (List.getElem?_eq_some_iff.1 hi).2
  rw [hrow] at hr
  refine ⟨_, k1, some ⟨xs[i].1, 0, none⟩, xs[i].2.2, ?_, hr.ty.2.2.2.1, k4, hr.rd⟩
  rw [hr.ty.2.2.1]
theorem ImgOwn.parts (h : ImgOwn w lo A c xs im) : im.length ≤ c ∧ c ≤ maxLen := by
  obtain ⟨A', c', he, h1, h2, _⟩ := Own.rd h.outer (fun _ h => h.elim)
  simp only [List.cons.injEq, Value.slice.injEq, and_true] at he
  obtain ⟨_, _, rfl⟩ := he
  rw [← h.len]
  exact ⟨h1, h2⟩
/-- behind an append of a row that was just made -/
theorem ImgOwn.snoc {A' : Option Addr} {c' : Nat} {x : Nat × Nat × Nat} {row : List Sec} {w1 : World} (h : ImgOwn w lo A c xs im) (hr : RowOf w lo x row) (hnew : ∀ y ∈ xs, y.1 < x.1)
    (hn : Own encBlk w1 lo 55 (fun _ => False) (.slice A' (xs.length + 1) c') (xs ++ [x])) (hg : w.grownBy w1 (Value.slice A xs.length c).ownBlock) : ImgOwn w1 lo A' c' (xs ++ [x]) (im ++ [row]) := by
  have key : ∀ y row, RowOf w lo y row → RowOf w1 lo y row := fun y row hy => hy.blk (hg.block _ hy.ty.2.1 (fun e => by
    obtain ⟨_, cs, fr, h1⟩ := h.outer.cellsOf y.1 e.symm
    obtain ⟨cs', h2⟩ := hy.ty.2.2.2.2.2
    rw [h1] at h2
    injection h2 with h2
    injection h2 with _ h2 _
    exact absurd h2 (by decide)))
  refine ⟨by simpa using hn, by simp [h.len], fun k h1 h2 => ?_, ?_⟩
  · by_cases hk : k < xs.length
    · rw [List.getElem_append_left hk, List.getElem_append_left (by rw [← h.len]; exact hk)]
      exact key _ _ (h.rows k hk (by rw [← h.len]; exact hk))
    · have hke : k = xs.length := by simp at h1; omega
      subst hke
      rw [List.getElem_append_right (Nat.le_refl _), List.getElem_append_right (by rw [h.len]; exact Nat.le_refl _)]
      simp only [Nat.sub_self, List.getElem_cons_zero, h.len]
      exact key _ _ hr
  · rw [List.map_append, List.nodup_append]
    refine ⟨h.apart, by simp, fun a ha b hb e => ?_⟩
    obtain ⟨y, hy, rfl⟩ := List.mem_map.1 ha
    simp only [List.map_cons, List.map_nil, List.mem_singleton] at hb
    subst hb
    have := hnew y hy
    omega
/-- behind a copy into one row -/
theorem ImgOwn.put {w1 : World} {k : Nat} {row : List Sec} (h : ImgOwn w lo A c xs im) (hk : k < xs.length) (hr : RowOf w1 lo xs[k] row) (hg : w.grownBy w1 (some xs[k].1)) : ImgOwn w1 lo A c xs (im.set k row) := by
  refine ⟨Own.blk h.outer (fun b hb => ?_), by simp [h.len], fun j h1 h2 => ?_, h.apart⟩
  · rcases hb with hb | hb
    · exact hb.elim
    · refine hg.block b (h.outer.lt b hb).2 (fun e => ?_)
      injection e with e
      obtain ⟨_, cs, fr, h1⟩ := h.outer.cellsOf b hb
      obtain ⟨cs', h2⟩ := (h.rows k hk (by rw [← h.len]; exact hk)).ty.2.2.2.2.2
      rw [← e, h1] at h2
      injection h2 with h2
      injection h2 with _ h2 _
      exact absurd h2 (by decide)
  · rw [List.getElem_set]
    split
    · rename_i e
      subst e
      exact hr
    · rename_i e
      have h2' : j < im.length := by simpa using h2
      refine (h.rows j h1 h2').blk (hg.block _ (h.rows j h1 h2').ty.2.1 (fun e' => e ?_))
      injection e' with e'
      have := (List.getElem_inj (i := k) (j := j) (h₀ := by simpa using hk) (h₁ := by simpa using h1) h.apart).1 (by simpa using e'.symm)
      exact this
end
theorem tySec8 : SliceTy Tryz.prog 55 54 8 8 := sliceTy_mk (z := .agg #[.int .u8 0, .int .u8 0, .int .u8 0, .int .u8 0, .int .u8 0, .int .u8 0, .int .u8 0, .int .u8 0]) Tryz.underlying55 (by kernel_rfl) rfl (by decide)
set_option maxHeartbeats 1000000 in
theorem cloneRow_any (A : Option Addr) (c n : Nat) (l : List Sec) (w : World) (hn : l.length = n) (hpos : 0 < n) (h1 : SlAt encSec w (Bl w.heap.size) A l) (hl : n ≤ 1000000) :
    Calls Tryz.prog 45 #[.slice A n c] w fun e w' => ∃ g c', e = .returned (.slice (some ⟨g, 0, none⟩) n c') ∧ RowOf w' w.heap.size (g, n, c') l ∧ Below w.heap.size w w' := by
  obtain ⟨b, off, rfl, _⟩ := h1.some_ (by intro e; subst e; simp at hn; omega)
  have hO := Lib.hid (show Own encSec (w.alloc (.cells #[] 54)) w.heap.size 54 (Bl w.heap.size) (.slice (some ⟨w.heap.size, 0, none⟩) 0 0) [] from Own.make0 (cur := #[]) (Nat.le_refl _) (by unfold maxLen; omega) rfl (fun h => Nat.lt_irrefl _ h))
  have hsrc := Lib.hid (show SlAt encSec (w.alloc (.cells #[] 54)) (Bl w.heap.size) (some ⟨b, off, none⟩) l from h1.below (ext_alloc (Below.refl _ _)))
  clear h1
  have hE := fun W => Lib.run_eql_slice_nil (P := Tryz.prog) W 55 54 (some ⟨b, off, none⟩) n c 0 0 Tryz.underlying55
  go_enter Tryz.func45, Tryz.ntmps45
  go_wp2_with (at_builtin; refine Hid.out ?_)
  change wpList _ _ _ _ _ _
  refine wpList_appAll (E := encSec) tySec8 rfl _ _ rfl rfl hO.out rfl hn.symm hsrc.out (fun g hg => by simp; have : g < w.heap.size := hg; omega) (by simp) (by unfold maxLen; simp; omega) (by simp; omega) ?_
  intro A5 c5 w5 hown5 hg5 hat5
  simp only [List.length_nil, Nat.zero_add, List.nil_append] at hown5
  have hB5 : Below w.heap.size w w5 := (ext_alloc (o := .cells #[] 54) (Below.refl w.heap.size w)).grown hg5 (by simp) (fun g hg => (hO.out.lt g hg).1)
  have hfl := Own.flat hown5 (fun h => h)
  obtain ⟨g, _, rfl, _⟩ := hfl.elem (i := 0) (by omega)
  have hfin : Hid (RowOf w5 w.heap.size (g, n, c5) l) := hfl
  clear hown5 hg5 hat5 hfl
  go_wp2
  go_ret
  exact ⟨g, c5, rfl, hfin.out, hB5⟩
end Go.Proofs.YtnkmklnlaepdeaaGreat

namespace Go.Proofs.YtnkmklnlaepdeaaGreat
open Go.RowKit

theorem tyImgI : SliceTy Tryz.prog 25 55 encBlk.size 24 := sliceTy_mk (z := .slice none 0 0) Tryz.underlying25 (by kernel_rfl) rfl (by decide)
/-- an image behind a write -/
def putW (im : List (List Sec)) (x : Wr) : List (List Sec) := im.set x.1.toNat (over (im.getD x.1.toNat []) x.2.1.toNat x.2.2)
def putAll (im : List (List Sec)) (l : List Wr) : List (List Sec) := l.foldl putW im
theorem putAll_snoc (im : List (List Sec)) (l : List Wr) (x : Wr) : putAll im (l ++ [x]) = putW (putAll im l) x := by simp [putAll]
theorem fits_img {im : List (List Sec)} {x : Wr} (h : fitsN (lens im) x = 0) : ∃ (k s : Nat), x.1 = k ∧ x.2.1 = s ∧ k < im.length ∧ 0 < x.2.2.length ∧ s + x.2.2.length ≤ (im.getD k []).length := by
  unfold fitsN at h
  split at h
  · cases h
  · rename_i c1
    split at h
    · cases h
    · rename_i c2
      split at h
      · cases h
      · rename_i c3
        rw [lens_len] at c1
        have hk : x.1.toNat < im.length := by omega
        have e1 : (lens im).getD x.1.toNat 0 = ((im.getD x.1.toNat []).length : Int) := by
          rw [List.getD_eq_getElem?_getD, List.getD_eq_getElem?_getD, List.getElem?_eq_getElem (by rw [lens_len]; exact hk), List.getElem?_eq_getElem hk]
          exact lens_at hk
        rw [e1] at c3
        refine ⟨x.1.toNat, x.2.1.toNat, by omega, by omega, hk, by omega, by omega⟩
theorem putW_lens {im : List (List Sec)} {x : Wr} (h : fitsN (lens im) x = 0) : lens (putW im x) = lens im := by
  obtain ⟨k, s, e1, e2, hk, _, hs⟩ := fits_img h
  unfold putW lens
  rw [e1, e2, Int.toNat_natCast, Int.toNat_natCast]
  refine List.ext_getElem (by simp) fun i h1 h2 => ?_
  simp only [List.getElem_map, List.getElem_set]
  split
  · rename_i e
    subst e
    unfold lenI
    rw [over_len hs, List.getD_eq_getElem?_getD, List.getElem?_eq_getElem hk]
    rfl
  · rfl
theorem putAll_lens {im : List (List Sec)} {l : List Wr} (h : ∀ x ∈ l, fitsN (lens im) x = 0) : lens (putAll im l) = lens im := by
  induction l using snocRec with
  | h0 => rfl
  | h1 l x ih =>
    have ih := ih (fun y hy => h y (by simp [hy]))
    rw [putAll_snoc, putW_lens (by rw [ih]; exact h x (by simp)), ih]
/-- what Apply returns -/
def applyErr (im : List (List Sec)) (l : List Wr) : Int := if sizesN (lens im) ≠ 0 then sizesN (lens im) else errOf (fitsN (lens im)) l
def applyL (im : List (List Sec)) (l : List Wr) : List (List Sec) := if applyErr im l = 0 then putAll im l else []
def ApplyRet (r : List (List Sec)) (en : Int) (w : World) (e : Ending) (w' : World) : Prop :=
  ∃ A c i, e = .returned (.tuple #[.slice A r.length c, .int .i64 i, .int .i64 en]) ∧ r.length ≤ c ∧ c ≤ maxLen ∧ SlAt (encSl encSec) w' (Nw w.heap.size w'.heap.size) A r ∧ Below w.heap.size w w'
theorem ApplyRet.no {en : Int} {w w' : World} {i : Int} (h : Below w.heap.size w w') : ApplyRet [] en w (.returned (.tuple #[.slice none 0 0, .int .i64 i, .int .i64 en])) w' := ⟨none, 0, i, rfl, by simp, by simp, SlAt.nil_, h⟩
theorem putAll_length (im : List (List Sec)) (l : List Wr) : (putAll im l).length = im.length := by
  induction l using snocRec with
  | h0 => rfl
  | h1 l x ih => rw [putAll_snoc, putW, List.length_set, ih]
theorem imgFits1X (A : Option Addr) (c n m : Nat) (im : List (List Sec)) (v s : Int) (D : Option Addr) (dc : Nat) (data : List Sec) (w : World) (hn' : im.length = n) (hm : data.length = m) (h1 : SlAt (encSl encSec) w (Bl w.heap.size) A im) (hl : n ≤ 1000000) (hn : m ≤ 9223372036854775807) (hv : I64 v) (hs2 : I64 s) (pn : Int) (hp : fitsN (lens im) (v, s, data) = pn) :
    Calls Tryz.prog 85 #[.slice A n c, .agg #[.int .i64 v, .int .i64 s, .slice D m dc]] w fun e w' => e = .returned (.int .i64 pn) ∧ Below w.heap.size w w' := by
  subst hn' hm hp
  exact imgFits1_any A c im v s D dc data w h1 hl hn hv hs2
end Go.Proofs.YtnkmklnlaepdeaaGreat
